import Derived.Test.YtlllbkjiadcloaaDoorM3
import Derived.Test.YtlllbkjiadcloaaDoorM7
/- Lemmas on the program's own code, towards the laws of this folder, part 8. Conditions: as each lemma says. -/
-- Law2
section
/- Terms that come in. -/
namespace Go.Hb
open Go Go.RowKit

section
variable {H : Type} {enc : TypeId × Value → H} {P : Program} {W : World} {sp : Nat → Bool} {fuel : Nat} {t e : TypeId} {cs : List Value} {d : DataW H} {ps : List MemPlace}

theorem ab_int {k : IntKind} {n : Int} : ab P W (.int k n) = .int k n := rfl
theorem ab_string {s : ByteArray} : ab P W (.string s) = .string s := rfl
theorem ab_bool {b : Bool} : ab P W (.bool b) = .bool b := rfl
theorem ab_nilslice : ab P W (.slice none 0 0) = .slice none 0 0 := rfl

theorem trod_int {k : IntKind} (ht : P.underlying t = some (.int k)) (h : DataW.trod enc P W 0 sp true fuel t cs = some (d, ps)) : ∃ n, cs = [.int k n] ∧ (Lit.int k n).wf = true := by
  cases fuel with
  | zero => simp [DataW.trod] at h
  | succ m =>
    unfold DataW.trod at h
    rw [ht] at h
    split at h <;> simp_all
theorem trod_string (ht : P.underlying t = some .string) (h : DataW.trod enc P W 0 sp true fuel t cs = some (d, ps)) : ∃ s : ByteArray, cs = [.string s] ∧ s.size ≤ maxLen := by
  cases fuel with
  | zero => simp [DataW.trod] at h
  | succ m =>
    unfold DataW.trod at h
    rw [ht] at h
    split at h <;> simp_all
theorem trod_bool (ht : P.underlying t = some .bool) (h : DataW.trod enc P W 0 sp true fuel t cs = some (d, ps)) : ∃ b, cs = [.bool b] := by
  cases fuel with
  | zero => simp [DataW.trod] at h
  | succ m =>
    unfold DataW.trod at h
    rw [ht] at h
    split at h <;> simp_all
theorem trod_slice (ht : P.underlying t = some (.slice e)) (h : DataW.trod enc P W 0 sp true fuel t cs = some (d, ps)) :
    cs = [.slice none 0 0] ∨ ∃ a len cap m, fuel = m + 1 ∧ cs = [.slice (some a) len cap] ∧ len ≤ cap ∧ cap ≤ maxLen ∧
      ∀ i, i < len → ∃ es d' ps', W.cells? 0 (a.add (i * P.cellsOf e)) (P.cellsOf e) = some es ∧ DataW.trod enc P W 0 sp true m e es = some (d', ps') := by
  cases fuel with
  | zero => simp [DataW.trod] at h
  | succ m =>
    unfold DataW.trod at h
    rw [ht] at h
    split at h <;> simp_all
    obtain ⟨⟨hl, hc⟩, h⟩ := h
    simp only [Option.bind_eq_some_iff, Option.map_eq_some_iff] at h
    obtain ⟨elems, he, _⟩ := h
    refine ⟨_, _, _, ⟨rfl, rfl, rfl⟩, hl, hc, fun i hi => ?_⟩
    have hlen := mapM_some_length he
    have := mapM_some_get he i i (by simp [hi])
    rw [List.getElem?_eq_getElem (by rw [hlen]; simpa using hi)] at this
    simp only [Option.bind_eq_some_iff] at this
    obtain ⟨es, h1, h2⟩ := this
    exact ⟨es, h1, _, _, h2⟩
theorem trod_struct {fs : Array Field} (ht : P.underlying t = some (.struct fs)) (h : DataW.trod enc P W 0 sp true fuel t cs = some (d, ps)) :
    ∃ m, fuel = m + 1 ∧ cs.length = P.cellsOf t ∧ ∀ (i : Nat) (f : Field), fs[i]? = some f → ∃ d' ps', DataW.trod enc P W 0 sp true m f.type ((cs.drop f.offset).take (P.cellsOf f.type)) = some (d', ps') := by
  cases fuel with
  | zero => simp [DataW.trod] at h
  | succ m =>
    unfold DataW.trod at h
    rw [ht] at h
    split at h <;> simp_all
    subst_vars
    obtain ⟨hl, xs, hx, _⟩ := h
    intro i f hf
    have hlen := mapM_some_length hx
    have := mapM_some_get hx i f (by simpa using hf)
    have hi := (Array.getElem?_eq_some_iff.1 hf).1
    rw [List.getElem?_eq_getElem (by rw [hlen]; simpa using hi)] at this
    exact ⟨_, _, this⟩
theorem blk_add (a : Addr) (i : Nat) : (a.add i).block = a.block := by unfold Addr.add; split <;> rfl
theorem add_spot {a : Addr} {i : Nat} : (a.add i).spot = none ∨ (a.add i).spot = a.spot := by
  unfold Addr.add
  split
  · exact .inr rfl
  · exact .inl rfl
/-- an element of a slice, in the world's abstraction -/
theorem elem_load {a : Addr} {s i : Nat} {es : List Value} (hs : 0 < s) (h : W.cells? 0 (a.add (i * s)) s = some es) (hsp : a.spot = none) : (heapW P W).load ⟨a.block, a.off + i * s, none⟩ s = some (es.map (ab P W)) ∧ es.length = s ∧ a.block < W.heap.size := by
  obtain ⟨_, hl, hc⟩ := World.cells?_some h
  obtain ⟨b, o, sp⟩ := a
  obtain rfl : sp = none := hsp
  have hb := World.cells?_block h hs
  rw [blk_add] at hb
  refine ⟨load_world hs hl fun j v hj => ?_, hl, hb⟩
  have hjl : j < es.length := (List.getElem?_eq_some_iff.1 hj).1
  have := hc j (by omega)
  rw [add0, add0] at this
  rw [this]; exact hj
/-- a slice of which an element is read has a plain place, unless none is -/
theorem slice_spot {a : Addr} {s : Nat} {es : List Value} (hs : 0 < s) (h : W.cells? 0 (a.add (0 * s)) s = some es) : a.spot = none := by
  obtain ⟨_, hl, hc⟩ := World.cells?_some h
  have e0 : ∀ a : Addr, a.add 0 = a := fun a => by unfold Addr.add; simp
  have := hc 0 hs
  rw [Nat.zero_mul, e0, e0, List.getElem?_eq_getElem (by omega)] at this
  unfold World.cell? at this
  split at this
  · split at this
    · cases this
    · rename_i hn; simpa using hn
  · cases this
end

section
variable {H : Type} {enc : TypeId × Value → H} {P : Program} {W : World} {sp : Nat → Bool}
/-- the types of terms -/
structure TermTypes (P : Program) (tT tS tI tG tU : TypeId) : Prop where
  fields : ∃ fs : Array Field, P.underlying tT = some (.struct fs) ∧ (fs.toList.map fun f => (f.offset, f.type)) = [(0, tI), (1, tG), (2, tG), (3, tU), (4, tI), (5, tS)]
  slice : P.underlying tS = some (.slice tT)
  int : P.underlying tI = some (.int .i64)
  str : P.underlying tG = some .string
  u64 : P.underlying tU = some (.int .u64)
  cT : P.cellsOf tT = 6
  cS : P.cellsOf tS = 1
  cI : P.cellsOf tI = 1
  cG : P.cellsOf tG = 1
  cU : P.cellsOf tU = 1

theorem wf_i64 {n : Int} (h : (Lit.int .i64 n).wf = true) : i64 n := by
  unfold i64
  unfold Lit.wf at h
  simp [IntKind.min, IntKind.max, IntKind.bits, IntKind.signed] at h
  exact h
theorem wf_u64 {n : Int} (h : (Lit.int .u64 n).wf = true) : u64 n := by
  unfold u64
  unfold Lit.wf at h
  simp [IntKind.min, IntKind.max, IntKind.bits, IntKind.signed] at h
  exact h
theorem one_at {cs : List Value} {o : Nat} {v : Value} (h : (cs.drop o).take 1 = [v]) : cs[o]? = some v := by
  have : ((cs.drop o).take 1)[0]? = some v := by rw [h]; rfl
  simpa [List.getElem?_take, List.getElem?_drop] using this
theorem list_six {cs : List Value} {a b c d e f : Value} (hl : cs.length = 6) (h0 : cs[0]? = some a) (h1 : cs[1]? = some b) (h2 : cs[2]? = some c) (h3 : cs[3]? = some d) (h4 : cs[4]? = some e) (h5 : cs[5]? = some f) : cs = [a, b, c, d, e, f] := by
  match cs, hl with
  | [_, _, _, _, _, _], _ => simp at h0 h1 h2 h3 h4 h5; simp [h0, h1, h2, h3, h4, h5]
theorem rep_of_trod {tT tS tI tG tU : TypeId} (T : TermTypes P tT tS tI tG tU) : ∀ (fuel : Nat) (cs : List Value) (d : DataW H) (ps : List MemPlace), DataW.trod enc P W 0 sp true fuel tT cs = some (d, ps) → ∃ t, RepT (heapW P W) t (cs.map (ab P W)) := by
  intro fuel
  induction fuel using Nat.strongRecOn with
  | _ fuel ih =>
  intro cs d ps h
  obtain ⟨fs, hf, hfs⟩ := T.fields
  obtain ⟨m, rfl, hl, hall⟩ := trod_struct hf h
  rw [T.cT] at hl
  have fld : ∀ i o u, ((fs.toList.map fun f => (f.offset, f.type)))[i]? = some (o, u) → P.cellsOf u = 1 → ∃ d' ps', DataW.trod enc P W 0 sp true m u ((cs.drop o).take 1) = some (d', ps') := fun i o u hi hu => by
    rw [List.getElem?_map, Option.map_eq_some_iff] at hi
    obtain ⟨f, hf1, hf2⟩ := hi
    obtain ⟨d', ps', hd⟩ := hall i f (by simpa using hf1)
    cases hf2
    rw [hu] at hd
    exact ⟨d', ps', hd⟩
  rw [hfs] at fld
  obtain ⟨d0, p0, t0⟩ := fld 0 0 tI rfl T.cI
  obtain ⟨d1, p1, t1⟩ := fld 1 1 tG rfl T.cG
  obtain ⟨d2, p2, t2⟩ := fld 2 2 tG rfl T.cG
  obtain ⟨d3, p3, t3⟩ := fld 3 3 tU rfl T.cU
  obtain ⟨d4, p4, t4⟩ := fld 4 4 tI rfl T.cI
  obtain ⟨d5, p5, t5⟩ := fld 5 5 tS rfl T.cS
  obtain ⟨k, h0, w0⟩ := trod_int T.int t0
  obtain ⟨s, h1, w1⟩ := trod_string T.str t1
  obtain ⟨u, h2, w2⟩ := trod_string T.str t2
  obtain ⟨b, h3, w3⟩ := trod_int T.u64 t3
  obtain ⟨v, h4, w4⟩ := trod_int T.int t4
  rcases trod_slice T.slice t5 with h5 | ⟨a, n, c, m', rfl, h5, hnc, hcm, hel⟩
  · rw [list_six hl (one_at h0) (one_at h1) (one_at h2) (one_at h3) (one_at h4) (one_at h5)]
    exact ⟨.mk k s u b v [], .mk k s u b v [] none 0 (fun _ => []) (wf_i64 w0) w1 w2 (wf_u64 w3) (wf_i64 w4) (Nat.zero_le _) (Nat.le_refl _) (Nat.zero_le _) (fun _ => ⟨rfl, rfl⟩) (fun i ad hi => by simp at hi) (fun i t ht => by simp at ht)⟩
  · rw [list_six hl (one_at h0) (one_at h1) (one_at h2) (one_at h3) (one_at h4) (one_at h5)]
    rw [T.cT] at hel
    have hsp : 0 < n → a.spot = none := fun hn => by
      obtain ⟨es, _, _, he, _⟩ := hel 0 hn
      exact slice_spot (by omega) he
    have key : ∀ i, ∃ t cells, i < n → (heapW P W).load ⟨a.block, a.off + i * 6, none⟩ 6 = some cells ∧ RepT (heapW P W) t cells := fun i => by
      by_cases hi : i < n
      · obtain ⟨es, d', ps', he, ht⟩ := hel i hi
        obtain ⟨t, hr⟩ := ih m' (by omega) es d' ps' ht
        exact ⟨t, _, fun _ => ⟨(elem_load (by omega) he (hsp (by omega))).1, hr⟩⟩
      · exact ⟨.mk 0 s u 0 0 [], [], fun h => absurd h hi⟩
    obtain ⟨T', hT'⟩ := Classical.axiomOfChoice key
    obtain ⟨C, hC⟩ := Classical.axiomOfChoice hT'
    have hlen : ((List.range n).map T').length = n := by simp
    refine ⟨.mk k s u b v ((List.range n).map T'), ?_⟩
    by_cases hn : 0 < n
    · have hbl : a.block < W.heap.size := by
        obtain ⟨es, _, _, he, _⟩ := hel 0 hn
        exact (elem_load (P := P) (by omega) he (hsp hn)).2.2
      have hab : ab P W (.slice (some a) n c) = .slice (some a) ((List.range n).map T').length c := by
        unfold ab
        rw [hlen]
        simp only
        rw [if_pos ⟨hnc, hcm⟩, if_pos ⟨hsp hn, hbl⟩]
      simp only [List.map_cons, List.map_nil, ab_int, ab_string, hab]
      refine .mk k s u b v _ (some a) c C (wf_i64 w0) w1 w2 (wf_u64 w3) (wf_i64 w4) (by rw [hlen]; omega) (by rw [hlen]; exact hnc) hcm (fun h => by cases h) (fun i ad hi ha => ?_) (fun i t ht => ?_)
      · cases ha
        rw [hlen] at hi
        exact ⟨hsp hn, (hC i hi).1⟩
      · rw [List.getElem?_map, Option.map_eq_some_iff] at ht
        obtain ⟨j, hj, rfl⟩ := ht
        have hi : i < n := by have := (List.getElem?_eq_some_iff.1 hj).1; simpa using this
        rw [List.getElem?_range hi] at hj
        cases hj
        exact (hC i hi).2
    · have hn0 : n = 0 := by omega
      subst hn0
      obtain ⟨a', hab⟩ : ∃ a', ab P W (.slice (some a) 0 c) = .slice (some a') 0 c := by
        unfold ab
        simp only
        rw [if_pos ⟨hnc, hcm⟩]
        split
        · exact ⟨_, rfl⟩
        · exact ⟨_, rfl⟩
      simp only [List.map_cons, List.map_nil, ab_int, ab_string, hab, List.range_zero]
      exact .mk k s u b v [] (some a') c C (wf_i64 w0) w1 w2 (wf_u64 w3) (wf_i64 w4) (Nat.zero_le _) hnc hcm (fun h => by cases h) (fun i ad hi => by simp at hi) (fun i t ht => by simp at ht)
end
end Go.Hb
end
