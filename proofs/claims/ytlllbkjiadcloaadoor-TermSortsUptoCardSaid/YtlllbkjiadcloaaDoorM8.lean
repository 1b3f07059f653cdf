import Derived.Test.YtlllbkjiadcloaaDoorM7
/- Lemmas on the program's own code, towards the laws of this folder, part 8. Conditions: as each lemma says. -/
-- Law4
section
namespace Go.Proofs.YtlllbkjiadcloaaDoor.hb
open Go Go.RowKit Go.Hb
section
variable {H : Type} {enc : TypeId × Value → H} {P : Program} {W : World} {sp : Nat → Bool}
structure Wt (w : DataW H → Nat) : Prop where
  pos : ∀ d, 1 ≤ w d
  agg : ∀ ps, (ps.map w).sum + 1 ≤ w (.agg ps)
  slice : ∀ es rest, (es.map w).sum + 1 ≤ w (.slice es rest)
theorem z9j {fuel : Nat} {t : TypeId} {cs : List Value} {d : DataW H} {ps : List MemPlace} {fs : Array Field} (ht : P.underlying t = some (.struct fs)) (h : DataW.trod enc P W 0 sp true fuel t cs = some (d, ps)) :
    ∃ (m : Nat) (xs : List (DataW H × List MemPlace)), fuel = m + 1 ∧ cs.length = P.cellsOf t ∧ d = .agg (xs.map (·.1)) ∧ ∀ (i : Nat) (f : Field), fs[i]? = some f → ∃ x, xs[i]? = some x ∧ DataW.trod enc P W 0 sp true m f.type ((cs.drop f.offset).take (P.cellsOf f.type)) = some x := by
  cases fuel with
  | zero => simp [DataW.trod] at h
  | succ m =>
    unfold DataW.trod at h
    rw [ht] at h
    have h' : (if cs.length = P.cellsOf t then (fs.toList.mapM fun f => DataW.trod enc P W 0 sp true m f.type ((cs.drop f.offset).take (P.cellsOf f.type))).map fun xs => (DataW.agg (xs.map (·.1)), xs.flatMap (·.2)) else none) = some (d, ps) := by
      split at h <;> first | exact h | simp_all
    split at h'
    · rename_i hl
      rw [Option.map_eq_some_iff] at h'
      obtain ⟨xs, hx, he⟩ := h'
      cases he
      refine ⟨m, xs, rfl, hl, rfl, fun i f hf => ?_⟩
      have hlen := mapM_some_length hx
      have := mapM_some_get hx i f (by simpa using hf)
      have hi := (Array.getElem?_eq_some_iff.1 hf).1
      have hix : i < xs.length := by rw [hlen]; simpa using hi
      rw [List.getElem?_eq_getElem hix] at this
      exact ⟨xs[i], List.getElem?_eq_getElem hix, this⟩
    · cases h'
theorem z5q {fuel : Nat} {t e : TypeId} {cs : List Value} {d : DataW H} {ps : List MemPlace} (ht : P.underlying t = some (.slice e)) (h : DataW.trod enc P W 0 sp true fuel t cs = some (d, ps)) :
    cs = [.slice none 0 0] ∨ ∃ (a : Addr) (cap m : Nat) (elems : List (DataW H × List MemPlace)) (rest : List (DataW H)), fuel = m + 1 ∧ cs = [.slice (some a) elems.length cap] ∧ elems.length ≤ cap ∧ cap ≤ maxLen ∧ d = .slice (elems.map (·.1)) rest ∧
      ∀ i x, elems[i]? = some x → ∃ es, W.cells? 0 (a.add (i * P.cellsOf e)) (P.cellsOf e) = some es ∧ DataW.trod enc P W 0 sp true m e es = some x := by
  rcases DataW.trod_slice ht h with ⟨h1, -⟩ | ⟨a, len, cap, elems, rest, n, rfl, rfl, hx, -, hl, hm, rfl, hel, -⟩
  · exact .inl h1
  · cases hx
    refine .inr ⟨a, cap, n, elems, _, rfl, rfl, hl, hm, rfl, fun i x hx => ?_⟩
    have hi := (List.getElem?_eq_some_iff.1 hx).1
    have := hel i hi
    rw [hx, Option.bind_eq_some_iff] at this
    exact this
theorem z9k : nd.ndL [] = 0 := by rw [nd.ndL]
theorem zea {t : Tm} {l : List Tm} : nd.ndL (t :: l) = nd t + nd.ndL l := by rw [nd.ndL]
theorem zns (t : Tm) : 1 ≤ nd t := by rw [zcn]; omega
theorem zi4 : ∀ l : List Tm, l.length ≤ nd.ndL l
  | [] => Nat.zero_le _
  | t :: l => by have := zi4 l; have := zns t; rw [zea, List.length_cons]; omega
theorem zl6 {w : DataW H → Nat} : ∀ (es : List (DataW H × List MemPlace)) (f : Nat → Tm), (∀ i x, es[i]? = some x → 7 * nd (f i) ≤ w x.1) → 7 * nd.ndL ((List.range es.length).map f) ≤ ((es.map (·.1)).map w).sum
  | [], f, _ => by simp [z9k]
  | x :: es, f, h => by
    have h0 := h 0 x rfl
    have ih := zl6 (w := w) es (fun i => f (i + 1)) fun i y hy => h (i + 1) y hy
    rw [List.length_cons, List.range_succ_eq_map, List.map_cons, List.map_map, zea, List.map_cons, List.map_cons, List.sum_cons]
    have e : (f ∘ Nat.succ) = fun i => f (i + 1) := rfl
    rw [e]; omega
theorem zju {b : Nat} {B : Blk} (h : (heapW P W).get b = some B) : ∃ cs e, B = .ro cs e := by
  rw [z4n] at h
  split at h
  · unfold blkW at h
    split at h
    · cases h; exact ⟨_, _, rfl⟩
    · cases h
  · cases h
theorem zmm {b o n : Nat} {cs : List Value} (h : (heapW P W).load ⟨b, o, none⟩ n = some cs) : ∃ cs e, (heapW P W).get b = some (.ro cs e) := by
  cases hg : (heapW P W).get b with
  | none => unfold Heap.load Heap.cells at h; simp [hg] at h
  | some B => obtain ⟨cs, e, rfl⟩ := zju hg; exact ⟨cs, e, rfl⟩
theorem zi5 {tT tS tI tG tU : TypeId} (T : TermTypes P tT tS tI tG tU) {w : DataW H → Nat} {a : Addr} {m cap : Nat} {elems : List (DataW H × List MemPlace)}
    (hnc : elems.length ≤ cap) (hcm : cap ≤ maxLen)
    (ih : ∀ (cs : List Value) (d : DataW H) (ps : List MemPlace), DataW.trod enc P W 0 sp true m tT cs = some (d, ps) → ∃ t, RepT (heapW P W) t (cs.map (ab P W)) ∧ 7 * nd t ≤ w d)
    (hel : ∀ i x, elems[i]? = some x → ∃ es, W.cells? 0 (a.add (i * P.cellsOf tT)) (P.cellsOf tT) = some es ∧ DataW.trod enc P W 0 sp true m tT es = some x) :
    ∃ l a' cells, ab P W (.slice (some a) elems.length cap) = .slice (some a') l.length cap ∧ RepL (heapW P W) l (some a') cap cells ∧ 7 * nd.ndL l ≤ ((elems.map (·.1)).map w).sum ∧ (0 < l.length → a'.spot = none ∧ ∃ cs e, (heapW P W).get a'.block = some (.ro cs e)) := by
  rw [T.cT] at hel
  have hsp : 0 < elems.length → a.spot = none := fun hn => by
    obtain ⟨es, he, _⟩ := hel 0 elems[0] (List.getElem?_eq_getElem hn)
    exact zfg (by omega) he
  have key : ∀ i, ∃ t cells, (∀ x, elems[i]? = some x → (heapW P W).load ⟨a.block, a.off + i * 6, none⟩ 6 = some cells ∧ RepT (heapW P W) t cells ∧ 7 * nd t ≤ w x.1) := fun i => by
    by_cases hi : i < elems.length
    · obtain ⟨es, he, ht⟩ := hel i elems[i] (List.getElem?_eq_getElem hi)
      obtain ⟨t, hr, hwt⟩ := ih es elems[i].1 elems[i].2 ht
      exact ⟨t, _, fun x hx => by rw [List.getElem?_eq_getElem hi] at hx; cases hx; exact ⟨(zbk (by omega) he (hsp (by omega))).1, hr, hwt⟩⟩
    · exact ⟨.mk 0 ByteArray.empty ByteArray.empty 0 0 [], [], fun x hx => absurd (List.getElem?_eq_some_iff.1 hx).1 hi⟩
  obtain ⟨T', hT'⟩ := Classical.axiomOfChoice key
  obtain ⟨C, hC⟩ := Classical.axiomOfChoice hT'
  have hlen : ((List.range elems.length).map T').length = elems.length := by simp
  have hsum := zl6 (w := w) elems T' fun i x hx => (hC i x hx).2.2
  by_cases hn : 0 < elems.length
  · have hbl : a.block < W.heap.size := by
      obtain ⟨es, he, _⟩ := hel 0 elems[0] (List.getElem?_eq_getElem hn)
      exact (zbk (P := P) (by omega) he (hsp hn)).2.2
    have hab : ab P W (.slice (some a) elems.length cap) = .slice (some a) ((List.range elems.length).map T').length cap := by
      unfold ab
      rw [hlen]
      simp only
      rw [if_pos ⟨hnc, hcm⟩, if_pos ⟨hsp hn, hbl⟩]
    refine ⟨(List.range elems.length).map T', a, C, hab, ⟨by rw [hlen]; exact hnc, hcm, fun h => (by cases h), fun i ad hi ha => ?_, fun i t ht => ?_⟩, hsum, fun _ => ⟨hsp hn, zmm (hC 0 _ (List.getElem?_eq_getElem hn)).1⟩⟩
    · cases ha
      rw [hlen] at hi
      exact ⟨hsp hn, (hC i _ (List.getElem?_eq_getElem hi)).1⟩
    · rw [List.getElem?_map, Option.map_eq_some_iff] at ht
      obtain ⟨j, hj, rfl⟩ := ht
      have hi : i < elems.length := by have := (List.getElem?_eq_some_iff.1 hj).1; simpa using this
      rw [List.getElem?_range hi] at hj
      cases hj
      exact (hC i _ (List.getElem?_eq_getElem hi)).2.1
  · have hn0 : elems.length = 0 := by omega
    obtain ⟨a', hab⟩ : ∃ a', ab P W (.slice (some a) elems.length cap) = .slice (some a') 0 cap := by
      unfold ab
      simp only
      rw [if_pos ⟨hnc, hcm⟩, hn0]
      split
      · exact ⟨_, rfl⟩
      · exact ⟨_, rfl⟩
    exact ⟨[], a', fun _ => [], hab, ⟨Nat.zero_le _, hcm, fun h => (by cases h), fun i ad hi => by simp at hi, fun i t h => by simp at h⟩, by simp [z9k], fun h => by simp at h⟩
theorem zoi {tT tS tI tG tU : TypeId} (T : TermTypes P tT tS tI tG tU) {w : DataW H → Nat} (hw : Wt w) : ∀ (fuel : Nat) (cs : List Value) (d : DataW H) (ps : List MemPlace), DataW.trod enc P W 0 sp true fuel tT cs = some (d, ps) → ∃ t, RepT (heapW P W) t (cs.map (ab P W)) ∧ 7 * nd t ≤ w d := by
  intro fuel
  induction fuel using Nat.strongRecOn with
  | _ fuel ih =>
  intro cs d ps h
  obtain ⟨fs, hf, hfs⟩ := T.fields
  obtain ⟨m, xs, rfl, hl, rfl, hall⟩ := z9j hf h
  rw [T.cT] at hl
  have fld : ∀ i o u, ((fs.toList.map fun f => (f.offset, f.type)))[i]? = some (o, u) → P.cellsOf u = 1 → ∃ x, xs[i]? = some x ∧ DataW.trod enc P W 0 sp true m u ((cs.drop o).take 1) = some x := fun i o u hi hu => by
    rw [List.getElem?_map, Option.map_eq_some_iff] at hi
    obtain ⟨f, hf1, hf2⟩ := hi
    obtain ⟨x, hx, hd⟩ := hall i f (by simpa using hf1)
    cases hf2
    rw [hu] at hd
    exact ⟨x, hx, hd⟩
  rw [hfs] at fld
  obtain ⟨d0, p0, t0⟩ := fld 0 0 tI rfl T.cI
  obtain ⟨d1, p1, t1⟩ := fld 1 1 tG rfl T.cG
  obtain ⟨d2, p2, t2⟩ := fld 2 2 tG rfl T.cG
  obtain ⟨d3, p3, t3⟩ := fld 3 3 tU rfl T.cU
  obtain ⟨d4, p4, t4⟩ := fld 4 4 tI rfl T.cI
  obtain ⟨d5, p5, t5⟩ := fld 5 5 tS rfl T.cS
  have hbulk : 6 + w d5.1 ≤ w (.agg (xs.map (·.1))) := by
    have h1 := hw.agg (xs.map (·.1))
    match xs, p0, p1, p2, p3, p4, p5, h1 with
    | x0 :: x1 :: x2 :: x3 :: x4 :: x5 :: r, p0, p1, p2, p3, p4, p5, h1 =>
      cases p5
      simp only [List.map_cons, List.sum_cons] at h1 ⊢
      have := hw.pos x0.1; have := hw.pos x1.1; have := hw.pos x2.1; have := hw.pos x3.1; have := hw.pos x4.1
      omega
  obtain ⟨k, h0, w0⟩ := z9i T.int t0
  obtain ⟨s, h1, w1⟩ := z7j T.str t1
  obtain ⟨u, h2, w2⟩ := z7j T.str t2
  obtain ⟨b, h3, w3⟩ := z9i T.u64 t3
  obtain ⟨v, h4, w4⟩ := z9i T.int t4
  have hp5 := hw.pos d5.1
  obtain ⟨d5, q5⟩ := d5
  rcases z5q T.slice t5 with h5 | ⟨a, c, m', elems, rest, rfl, h5, hnc, hcm, rfl, hel⟩
  · rw [ze9 hl (z3b h0) (z3b h1) (z3b h2) (z3b h3) (z3b h4) (z3b h5)]
    refine ⟨.mk k s u b v [], .mk k s u b v [] none 0 (fun _ => []) (ze8 w0) w1 w2 (zl5 w3) (ze8 w4) (Nat.zero_le _) (Nat.le_refl _) (Nat.zero_le _) (fun _ => ⟨rfl, rfl⟩) (fun i ad hi => by simp at hi) (fun i t ht => by simp at ht), ?_⟩
    rw [zcn, show (Tm.mk k s u b v []).args = [] from rfl, z9k]
    try simp only at hbulk
    try simp only at hp5
    omega
  · rw [ze9 hl (z3b h0) (z3b h1) (z3b h2) (z3b h3) (z3b h4) (z3b h5)]
    obtain ⟨l, a', C, hab, rl, hn, -⟩ := zi5 T hnc hcm (ih m' (by omega)) hel
    simp only [List.map_cons, List.map_nil, znr, zi3, hab]
    refine ⟨.mk k s u b v l, .mk k s u b v l (some a') c C (ze8 w0) w1 w2 (zl5 w3) (ze8 w4) (Nat.le_trans rl.len hcm) rl.len hcm (fun h => (by cases h)) rl.load rl.rep, ?_⟩
    rw [zcn, show (Tm.mk k s u b v l).args = l from rfl]
    have := hw.slice (elems.map (·.1)) rest
    try simp only at hbulk
    try simp only at hp5
    omega
theorem zco {tT tS tI tG tU : TypeId} (T : TermTypes P tT tS tI tG tU) {w : DataW H → Nat} (hw : Wt w) {v : Value} {fuel : Nat} {d : DataW H} {ps : List MemPlace} (h : DataW.trod enc P W 0 sp true fuel tS v.cells.toList = some (d, ps)) (hv : ∀ cs, v ≠ .agg cs) :
    ∃ l a c cells, abV P W v = .slice a l.length c ∧ RepL (heapW P W) l a c cells ∧ 7 * nd.ndL l ≤ w d ∧ ∀ b o, a = some ⟨b, o, none⟩ → 0 < l.length → ∃ cs e', (heapW P W).get b = some (.ro cs e') := by
  have hc : v.cells.toList = [v] := by
    unfold Value.cells
    split
    · rename_i cs; exact absurd rfl (hv cs)
    · rfl
  rw [hc] at h
  have hab : abV P W v = ab P W v := by
    unfold abV
    split
    · rename_i cs; exact absurd rfl (hv _)
    · rfl
  rw [hab]
  rcases z5q T.slice h with h5 | ⟨a, c, m', elems, rest, rfl, h5, hnc, hcm, rfl, hel⟩
  · cases h5
    exact ⟨[], none, 0, fun _ => [], rfl, ⟨Nat.le_refl _, Nat.zero_le _, fun _ => ⟨rfl, rfl⟩, fun i ad hi => by simp at hi, fun i t h => by simp at h⟩, by simp [z9k], fun b o h => by cases h⟩
  · cases h5
    obtain ⟨l, a', C, hab, rl, hn, hro⟩ := zi5 T hnc hcm (zoi T hw m') hel
    have := hw.slice (elems.map (·.1)) rest
    exact ⟨l, some a', c, C, hab, rl, by omega, fun b o e hl => by cases e; exact (hro hl).2⟩
end
end Go.Proofs.YtlllbkjiadcloaaDoor.hb
end
