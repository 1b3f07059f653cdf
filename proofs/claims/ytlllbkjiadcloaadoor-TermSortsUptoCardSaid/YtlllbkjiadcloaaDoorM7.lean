import Derived.Test.YtlllbkjiadcloaaDoorM3
import Derived.Test.YtlllbkjiadcloaaDoorM6
import Derived.Test.YtlllbkjiadcloaaDoorM5
/- Lemmas on the program's own code, towards the laws of this folder, part 7. Conditions: as each lemma says. -/
-- So7
section
namespace Go.Hb
open Go Go.RowKit
theorem Stb.map {α β : Type} {G : α → Prop} {cmp : α → α → Int} {cmp' : β → β → Int} (f : α → β) (hc : ∀ x y, cmp x y = cmp' (f x) (f y)) {l m : List α} (h : Stb G cmp l m) : Stb (fun t => ∃ x, G x ∧ f x = t) cmp' (l.map f) (m.map f) := by
  refine ⟨h.perm.map f, fun t ⟨x, hx, e⟩ => ?_⟩
  subst e
  have key : ∀ l : List α, like cmp' (f x) (l.map f) = (like cmp x l).map f := fun l => by
    unfold like
    rw [List.filter_map]
    congr 2
    funext y
    simp [hc]
  rw [key, key, h.eq x hx]
structure OwnD (H : Heap) (T : TypeId) (S : Nat → Prop) (n : Nat) (D : Nat → El) : Prop where
  bd : ∀ k, k < n → Bd (D k).t
  sub : ∀ k m, k < n → (D k).S m → S m
  one : (rowF n D).Pairwise fun x y => ∀ m, x.S m → ¬ y.S m
  fl : ∀ k, k < n → FL H T (D k).S (D k).t.args (D k).a (D k).c
theorem OwnD.heap {H H' : Heap} {T : TypeId} {S : Nat → Prop} {n : Nat} {D : Nat → El} (h : OwnD H T S n D) (hk : ∀ m, S m → m < H.next → H'.get m = H.get m) (hw : H.wf) : OwnD H' T S n D :=
  ⟨h.bd, h.sub, h.one, fun k hk2 => (h.fl k hk2).heap (fun m hm hl => hk m (h.sub k m hk2 hm) hl) hw⟩
theorem OwnD.mv {H : Heap} {T : TypeId} {S : Nat → Prop} {n : Nat} {D D' : Nat → El} {G : El → Prop} {cmp : El → El → Int} (h : OwnD H T S n D) (m : Mv G cmp 0 n D D') : OwnD H T S n D' := by
  have hj : ∀ k, k < n → ∃ j, j < n ∧ D' k = D j := fun k hk => by
    obtain ⟨j, _, j2, e⟩ := m.inn k (Nat.zero_le _) hk
    exact ⟨j, j2, e⟩
  refine ⟨fun k hk => ?_, fun k x hk hx => ?_, ?_, fun k hk => ?_⟩
  · obtain ⟨j, h1, e⟩ := hj k hk; rw [e]; exact h.bd j h1
  · obtain ⟨j, h1, e⟩ := hj k hk; rw [e] at hx; exact h.sub j x h1 hx
  · exact ((m.stb n (Nat.le_refl _)).perm.pairwise_iff (fun hxy m hy hx => hxy m hx hy)).1 h.one
  · obtain ⟨j, h1, e⟩ := hj k hk; rw [e]; exact h.fl j h1
theorem OwnD.apart {H : Heap} {T : TypeId} {S : Nat → Prop} {n : Nat} {D : Nat → El} (h : OwnD H T S n D) {i j m : Nat} (hi : i < n) (hj : j < n) (h1 : (D i).S m) (h2 : (D j).S m) : i = j := by
  have hp := List.pairwise_iff_getElem.1 h.one
  have gi : (rowF n D)[i]'(by rw [z0x]; exact hi) = D i := by simp [rowF]
  have gj : (rowF n D)[j]'(by rw [z0x]; exact hj) = D j := by simp [rowF]
  rcases Nat.lt_trichotomy i j with hl | hl | hl
  · have := hp i j (by rw [z0x]; exact hi) (by rw [z0x]; exact hj) hl m
    rw [gi, gj] at this; exact absurd h2 (this h1)
  · exact hl
  · have := hp j i (by rw [z0x]; exact hj) (by rw [z0x]; exact hi) hl m
    rw [gi, gj] at this; exact absurd h1 (this h2)
theorem OwnD.list {H : Heap} {T : TypeId} {S S' : Nat → Prop} {b n c : Nat} {D : Nat → El} (h : OwnD H T S n D) (r : RowE H T b n D) (hn : n ≤ c) (hc : c ≤ maxLen) (hb : S' b) (hS : ∀ m, S m → S' m) (hSb : ¬ S b) :
    FL H T S' ((rowF n D).map El.t) (some ⟨b, 0, none⟩) c := by
  obtain ⟨cells, hg, hl, he⟩ := r.row
  have hlen : ((rowF n D).map El.t).length = n := by rw [List.length_map, z0x]
  have hget : ∀ (i : Nat) (u : Tm), ((rowF n D).map El.t)[i]? = some u → i < n ∧ u = (D i).t := fun i u hu => by
    have hi : i < n := by have := (List.getElem?_eq_some_iff.1 hu).1; omega
    rw [List.getElem?_map, z4t hi] at hu
    exact ⟨hi, (Option.some.inj hu).symm⟩
  refine .row S' _ b c cells (fun i => (D i).S) (fun i => (D i).a) (fun i => (D i).c) (by omega) hc hg (by omega) (fun i u hu => ?_) (fun i u hu => ?_) hb (fun i hi hx => ?_) (fun i m hi hx => ?_) (fun i j m hi hj h1 h2 => ?_) (fun i u hu => ?_)
  · obtain ⟨hi, rfl⟩ := hget i u hu; exact he i hi
  · obtain ⟨hi, rfl⟩ := hget i u hu; exact h.bd i hi
  · exact hSb (h.sub i b (by omega) hx)
  · exact hS m (h.sub i m (by omega) hx)
  · exact h.apart (by omega) (by omega) h1 h2
  · obtain ⟨hi, rfl⟩ := hget i u hu; exact h.fl i hi
theorem OwnD.made {H : Heap} {T : TypeId} {S : Nat → Prop} {b : Nat} {l : List Tm} {cells : List Value} {Si : Nat → Nat → Prop} {ai : Nat → Option Addr} {ci : Nat → Nat} (h : FLs H T S l cells Si ai ci) (hg : H.get b = some (.row cells T)) (hl : cells.length = l.length * 6) (z : Tm) :
    RowE H T b l.length (fun k => ⟨l.getD k z, ai k, ci k, Si k⟩) ∧ OwnD H T S l.length (fun k => ⟨l.getD k z, ai k, ci k, Si k⟩) ∧ (rowF l.length (fun k => (⟨l.getD k z, ai k, ci k, Si k⟩ : El))).map El.t = l := by
  have hk : ∀ k, k < l.length → l[k]? = some (l.getD k z) := fun k hk => by simp [List.getD, hk]
  refine ⟨⟨⟨cells, hg, by omega, fun k h1 => h.el k _ (hk k h1)⟩⟩, ⟨fun k h1 => h.bd k _ (hk k h1), fun k m h1 h2 => h.sub k m h1 h2, ?_, fun k h1 => h.fl k _ (hk k h1)⟩, ?_⟩
  · rw [List.pairwise_iff_getElem]
    intro i j hi hj hij m h1 h2
    rw [z0x] at hi hj
    have gi : (rowF l.length (fun k => (⟨l.getD k z, ai k, ci k, Si k⟩ : El)))[i]'(by rw [z0x]; exact hi) = ⟨l.getD i z, ai i, ci i, Si i⟩ := by simp [rowF]
    have gj : (rowF l.length (fun k => (⟨l.getD k z, ai k, ci k, Si k⟩ : El)))[j]'(by rw [z0x]; exact hj) = ⟨l.getD j z, ai j, ci j, Si j⟩ := by simp [rowF]
    rw [gi] at h1; rw [gj] at h2
    have := h.one i j m hi hj h1 h2
    omega
  · apply List.ext_getElem?
    intro k
    rw [List.getElem?_map]
    by_cases h1 : k < l.length
    · rw [z4t h1, hk k h1]; rfl
    · rw [List.getElem?_eq_none (by rw [z0x]; omega), List.getElem?_eq_none (by omega)]; rfl
end Go.Hb
namespace Go.Proofs.YtlllbkjiadcloaaDoor.hb
open Go Go.RowKit Go.Hb
variable {ok : Ok}
set_option maxRecDepth 10000
attribute [local irreducible] LX LG EL STG SOP SGO SGD SAL SRD SEF SEG SLK SCK ES
set_option maxHeartbeats 4000000 in
theorem zhu {l : List Tm} {a : Option Addr} {c : Nat} {cells : Nat → List Value} {H : Heap} (rl : RepL H l a c cells) (hf : ∀ t ∈ l, Fine t) (hl : l.length ≤ most) (hw : H.wf) :
    EvF Tryd.prog okT 75 [.slice a l.length c] H fun v H' => ∃ cells' Si ai ci, v = .slice (some ⟨H.next, 0, none⟩) l.length l.length ∧ H'.get H.next = some (.row cells' 26) ∧ cells'.length = l.length * 6 ∧
      FLs H' 26 (Rg (H.next + 1) H'.next) l cells' Si ai ci ∧ HX H H' := by
  have hms : most ≤ 1048576 := by simp [most]
  refine EvF.enter rfl Tryd.func75 (by decide) rfl ?_
  (repeat refine EvC.seq ?_); refine EvC.reg ?_; simp (config := { maxSteps := 2000000 }) (disch := first | omega | rfl) only [sA, initTm]
  (repeat refine EvC.seq ?_); refine EvC.reg ?_; simp (config := { maxSteps := 2000000 }) (disch := first | omega | rfl) only [sB, Nat.reduceEqDiff, reduceCtorEq, ln24, z6r mk24]
  obtain ⟨H3, e3, hx3, gr, hn3, hw3⟩ := new1 hw (.row (repL l.length zero6) 26)
  simp only [e3]
  clear e3
  (repeat refine EvC.seq ?_); refine EvC.reg ?_; simp (config := { maxSteps := 2000000 }) (disch := first | omega | rfl) only [sB, Nat.reduceEqDiff, reduceCtorEq, ln24]
  refine EvC.meet (fun st => ∃ tm H' cells' Si ai ci, st = ⟨tm, [], H'⟩ ∧ tm.get 3 = some (.slice (some ⟨H.next, 0, none⟩) l.length l.length) ∧ H'.get H.next = some (.row cells' 26) ∧ cells'.length = l.length * 6 ∧
      FLs H' 26 (Rg (H.next + 1) H'.next) l cells' Si ai ci ∧ HX H H') ?_ ?_
  · refine EvC.block (EvC.loop (fun k st => ∃ tm H' i cells' Si ai ci, st = ⟨tm, [], H'⟩ ∧ k = l.length - i ∧ i ≤ l.length ∧
      tm.get 3 = some (.slice (some ⟨H.next, 0, none⟩) l.length l.length) ∧ tm.get 9 = some (.slice a l.length c) ∧ tm.get 10 = some (.int .i64 l.length) ∧ tm.get 11 = some (.int .i64 (i : Nat)) ∧
      H'.get H.next = some (.row cells' 26) ∧ cells'.length = l.length * 6 ∧
      FLs H' 26 (Rg (H.next + 1) H'.next) (l.take i) cells' Si ai ci ∧ HX H H') ?_ l.length _ ?_)
    · rintro k st ⟨tm, H', i, cells', Si, ai, ci, rfl, rfl, hi, t3, t9, t10, t11, gr', hlen, hfl, hx'⟩
      by_cases hlt : i < l.length
      · obtain ⟨b, o, a1, c1, rfl, hld, hr1⟩ := rl.el hlt
        have hld1 := hx'.load hw hld
        repeat' (first | refine EvC.seq ?_ | refine EvC.scope ?_ | refine EvC.block ?_ | (refine EvC.skip ?_; try simp only [z02]) | (refine EvC.exit ?_) | (refine EvC.ret ?_; try simp only [z01, z00]) | (refine EvC.reg ?_; simp (config := { maxSteps := 2000000 }) (disch := first | omega | rfl) only [sB, dAlloc, Nat.reduceEqDiff, Nat.reduceAdd, one, cutC, ia24, ld26, zr26, st26, cl61, t3, t9, t10, t11, decl hlt, hld1]) | (refine EvC.condT ?_ ?_; simp (config := { maxSteps := 2000000 }) (disch := first | omega | rfl) only [sB]; refine z03 ?_))
        obtain ⟨H4, e4, hx4, g4, hn4, hw4⟩ := zh8 hx'.wf (.row zero6 26) (.row (six l[i] a1 c1) 26)
        simp only [e4]
        clear e4
        have q4 := row6 g4
        repeat' (first | refine EvC.seq ?_ | refine EvC.scope ?_ | refine EvC.block ?_ | (refine EvC.skip ?_) | (refine EvC.exit ?_) | (refine EvC.ret ?_; try simp only [z01, z00]))
        refine (zm8 (Nat.lt_succ_self _) (hr1.mono (hx'.trans hx4) hw) (hf _ (List.getElem_mem _)) hw4).mono ?_
        rintro v H5 ⟨cs', rfl, ⟨a2, c2, rfl, hb2, hf2⟩, hx5⟩
        have hx45 := hx4.trans hx5
        have gr5 := hx45.get hx'.wf gr'
        have hle : i * 6 + 6 ≤ cells'.length := by rw [hlen]; exact mul6 hlt
        have hln := hx45.next
        have hln2 := hx5.next
        have hlt4 := hx'.wf _ _ gr'
        repeat' (first | refine EvC.seq ?_ | refine EvC.scope ?_ | refine EvC.block ?_ | (refine EvC.skip ?_) | (refine EvC.exit ?_) | (refine EvC.ret ?_; try simp only [z01, z00]) | (refine EvC.reg ?_; simp (config := { maxSteps := 2000000 }) (disch := first | omega | rfl) only [sB, Nat.reduceEqDiff, t11, z06]) | (refine z0z ?_; simp (config := { maxSteps := 2000000 }) (disch := first | omega | rfl) only [sB, Nat.reduceAdd, one, st26, gr5, hle]))
        have hx6 := (hx'.trans hx45).pt (i := H.next) (by omega) gr5 (some (.row (Hb.splice cells' (i * 6) (six l[i] a2 c2)) 26))
        have et : l.take (i + 1) = l.take i ++ [l[i]] := (List.take_append_getElem hlt).symm
        have etl : (l.take i).length = i := by rw [List.length_take]; omega
        obtain ⟨Si', ai', ci', hsn⟩ : ∃ Si ai ci, FLs (H5.put H.next (some (.row (Hb.splice cells' (i * 6) (six l[i] a2 c2)) 26))) 26 (Rg (H.next + 1) H5.next) (l.take (i + 1)) (Hb.splice cells' (i * 6) (six l[i] a2 c2)) Si ai ci := by
          rw [et]
          refine ⟨_, _, _, hfl.snoc (S' := Rg (H.next + 1) H5.next) (N := Rg H4.next H5.next) (fun n hn hl => ?_) hx'.wf (hf2.heap (fun n hn hl => ?_) hx5.wf) hb2 (fun n hn hs => ?_) (fun n hn => ?_) (fun n hn => ?_) (fun j hj => ?_) ?_⟩
          · have := hn.1
            rw [get_put, if_neg (by omega)]; exact hx45.keep n hl
          · have := hn.1
            rw [get_put, if_neg (by omega)]
          · have := hn.1; have := hs.2; omega
          · exact ⟨hn.1, by have := hn.2; omega⟩
          · exact ⟨by have := hn.1; omega, hn.2⟩
          · rw [etl] at hj
            exact z1d hle rfl (.inl (mul6 hj))
          · rw [etl]
            exact z2k hle rfl
        exact ⟨l.length - (i + 1), by omega, _, _, i + 1, Hb.splice cells' (i * 6) (six l[i] a2 c2), Si', ai', ci', rfl, rfl, by omega, (by simp only [sG, Nat.reduceEqDiff, t3] <;> rfl), (by simp only [sG, Nat.reduceEqDiff, t9] <;> rfl), (by simp only [sG, Nat.reduceEqDiff, t10] <;> rfl), (by simp only [sB, Nat.reduceEqDiff] <;> rfl), by rw [get_put, if_pos rfl], by rw [z0s hle]; exact hlen, hsn, hx6⟩
      · repeat' (first | refine EvC.seq ?_ | refine EvC.scope ?_ | refine EvC.block ?_ | (refine EvC.skip ?_) | (refine EvC.exit ?_; try simp only [sB, reduceCtorEq]) | (refine EvC.ret ?_; try simp only [z01, z00]) | (refine EvC.reg ?_; simp (config := { maxSteps := 2000000 }) (disch := first | omega | rfl) only [sA, t10, t11, decn hlt]) | (refine EvC.condT ?_ ?_; simp (config := { maxSteps := 2000000 }) (disch := first | omega | rfl) only [sB]; refine z03 ?_) | (refine EvC.condF ?_ ?_; simp (config := { maxSteps := 2000000 }) (disch := first | omega | rfl) only [sB]; refine z03 ?_))
        have hi' : i = l.length := by omega
        rw [hi', List.take_of_length_le (Nat.le_refl _)] at hfl
        exact ⟨_, _, cells', Si, ai, ci, rfl, (by simp only [sG, Nat.reduceEqDiff, t3] <;> rfl), gr', hlen, hfl, hx'⟩
    · refine ⟨_, _, 0, repL l.length zero6, fun _ _ => False, fun _ => none, fun _ => 0, rfl, rfl, by omega, (by simp only [sG, Nat.reduceEqDiff, reduceCtorEq] <;> rfl), (by simp only [sG, Nat.reduceEqDiff, reduceCtorEq] <;> rfl), (by simp only [sG, Nat.reduceEqDiff, reduceCtorEq] <;> rfl), (by simp only [sB, Nat.reduceEqDiff, reduceCtorEq] <;> rfl), gr, by rw [z49]; rfl, FLs.nil, hx3⟩
  · rintro st ⟨tm, H', cells', Si, ai, ci, rfl, t3, gr', hlen, hfl, hx'⟩
    try simp (config := { maxSteps := 2000000 }) (disch := first | omega | rfl) only [z02]
    repeat' (first | refine EvC.seq ?_ | refine EvC.scope ?_ | refine EvC.block ?_ | (refine EvC.skip ?_) | (refine EvC.exit ?_) | (refine EvC.ret ?_; try simp only [z01, z00]) | (refine EvC.reg ?_; simp (config := { maxSteps := 2000000 }) (disch := first | omega | rfl) only [sB, t3]))
    exact z04 rfl (by simp only [sG, Nat.reduceEqDiff] <;> rfl) ⟨cells', Si, ai, ci, rfl, gr', hlen, hfl, hx'⟩
theorem zf9 {H : Heap} {S : Nat → Prop} {b n : Nat} {D : Nat → El} (O : OwnD H 26 S n D) (hSb : ¬ S b) (hf : ∀ k, k < n → Fine (D k).t) (hw : H.wf) : Cmps 53 H b (fun e => ∃ k, k < n ∧ D k = e) (fun x y => ordT x.t y.t) := by
  refine ⟨by kernel_rfl, ⟨fun x y _ _ => z3n _ _, fun x y z hx hy hz => ?_⟩, fun x y H2 hx hy hk => ?_⟩
  · obtain ⟨i, hi, rfl⟩ := hx
    obtain ⟨j, hj, rfl⟩ := hy
    obtain ⟨k, hk, rfl⟩ := hz
    exact (TT.terms _ _ _ _ (Nat.lt_succ_self _) (hf i hi) (hf j hj) (hf k hk)).1
  · obtain ⟨i, hi, rfl⟩ := hx
    obtain ⟨j, hj, rfl⟩ := hy
    have hne : ∀ m, S m → ¬ m = b := fun m hm e => hSb (e ▸ hm)
    have r1 : RepT H2 (D i).t (D i).six := RepF.rep (T := 26) (S := (D i).S) ⟨_, _, rfl, O.bd i hi, (O.fl i hi).heap (fun m hm hl => hk.keep m hl (hne m (O.sub i m hi hm))) hw⟩
    have r2 : RepT H2 (D j).t (D j).six := RepF.rep (T := 26) (S := (D j).S) ⟨_, _, rfl, O.bd j hj, (O.fl j hj).heap (fun m hm hl => hk.keep m hl (hne m (O.sub j m hj hm))) hw⟩
    exact z9d (Nat.lt_succ_self _) r1 r2 (hf i hi) (hf j hj) hk.wf
def keyT (t : Tm) : Tm := t.args.getD 0 t
theorem z9e {t : Tm} (h : t.args.length = 2) : t.args[0]? = some (keyT t) := by
  unfold keyT
  rw [List.getD, List.getElem?_eq_getElem (by omega)]; rfl
theorem z39 {t : Tm} (h : t.args.length = 2) (f : Fine t) : Fine (keyT t) := f.args _ (List.mem_of_getElem? (z9e h))
set_option maxHeartbeats 4000000 in
theorem zjo {t t' : Tm} {cs cs' : List Value} {H : Heap} (r : RepT H t cs) (r' : RepT H t' cs') (h : t.args.length = 2) (h' : t'.args.length = 2) (hf : Fine t) (hf' : Fine t') (hw : H.wf) :
    EvF Tryd.prog okT 79 [.agg ⟨cs⟩, .agg ⟨cs'⟩] H fun v H' => v = .int .i64 (ordT (keyT t) (keyT t')) ∧ HX H H' := by
  obtain ⟨a, c, cells, rfl, -, -, -, -, -, rl⟩ := r.six
  obtain ⟨a', c', cells', rfl, -, -, -, -, -, rl'⟩ := r'.six
  obtain ⟨b, o, rfl, ld1, r1⟩ := rl.at (z9e h)
  obtain ⟨b', o', rfl, ld2, r2⟩ := rl'.at (z9e h')
  refine EvF.enter rfl Tryd.func79 (by decide) rfl ?_
  (repeat refine EvC.seq ?_); refine EvC.reg ?_; simp (config := { maxSteps := 2000000 }) (disch := first | omega | rfl) only [sB, initTm, dBox, Nat.reduceEqDiff, Value.cells, one, reduceCtorEq]
  obtain ⟨H2, e2, hx2, gp, gq, hn2, hw2⟩ := new2 hw (.row (six t (some ⟨b, o, none⟩) c) 26) (.row (six t' (some ⟨b', o', none⟩) c') 26)
  simp only [e2]
  clear e2
  have q1 := row6 gp
  have q2 := row6 gq
  have l1 := hx2.load hw ld1
  have l2 := hx2.load hw ld2
  obtain ⟨x1, y1, z1, e1, -⟩ := r1.six
  obtain ⟨x2, y2, z2, e2, -⟩ := r2.six
  rw [e1] at l1 r1
  rw [e2] at l2 r2
  rw [Nat.zero_mul, Nat.add_zero] at l1 l2
  have h2 : 0 < t.args.length := by omega
  have h2' : 0 < t'.args.length := by omega
  repeat' (first | refine EvC.seq ?_ | refine EvC.scope ?_ | refine EvC.block ?_ | (refine EvC.skip ?_) | (refine EvC.exit ?_) | (refine EvC.ret ?_; try simp only [z01, z00]) | (refine EvC.drw [([(0, 0), (1, 0), (2, 0), (3, 0), (4, 0), (5, 0), (6, 0), (7, 0)], some 8), ([(9, 1)], none)] ?_ ?_; kernel_rfl; simp (config := { maxSteps := 2000000 }) (disch := first | omega | rfl) only [sD, sB, Nat.reduceEqDiff, Nat.reduceAdd, reduceCtorEq, Int.reduceToNat, z0r, ld24, ld26, cl53, q1, q2, iz24, l1, l2, Nat.zero_mul, isAlloc, isRead, reduceCtorEq]))
  have hb := hx2.bump 10
  refine (z9d (Nat.lt_succ_self _) (r1.mono hb hw) (r2.mono hb hw) (z39 h hf) (z39 h' hf') hb.wf).mono ?_
  rintro v H3 ⟨rfl, hx3⟩
  repeat' (first | refine EvC.seq ?_ | refine EvC.scope ?_ | refine EvC.block ?_ | (refine EvC.skip ?_) | (refine EvC.exit ?_) | (refine EvC.ret ?_; try simp only [z01, z00]) | (refine z0n ?_; simp (config := { maxSteps := 2000000 }) (disch := first | omega | rfl) only [sD, sB, Nat.reduceEqDiff, reduceCtorEq, isAlloc, isRead, reduceCtorEq]))
  exact z04 rfl (by simp only [sG, Nat.reduceEqDiff, reduceCtorEq] <;> rfl) ⟨rfl, hb.trans hx3⟩
theorem zfa {H : Heap} {S : Nat → Prop} {b n : Nat} {D : Nat → El} (O : OwnD H 26 S n D) (hSb : ¬ S b) (hf : ∀ k, k < n → Fine (D k).t) (h2 : ∀ k, k < n → (D k).t.args.length = 2) (hw : H.wf) : Cmps 79 H b (fun e => ∃ k, k < n ∧ D k = e) (fun x y => ordT (keyT x.t) (keyT y.t)) := by
  refine ⟨by kernel_rfl, ⟨fun x y _ _ => z3n _ _, fun x y z hx hy hz => ?_⟩, fun x y H2 hx hy hk => ?_⟩
  · obtain ⟨i, hi, rfl⟩ := hx
    obtain ⟨j, hj, rfl⟩ := hy
    obtain ⟨k, hk, rfl⟩ := hz
    exact (TT.terms _ _ _ _ (Nat.lt_succ_self _) (z39 (h2 i hi) (hf i hi)) (z39 (h2 j hj) (hf j hj)) (z39 (h2 k hk) (hf k hk))).1
  · obtain ⟨i, hi, rfl⟩ := hx
    obtain ⟨j, hj, rfl⟩ := hy
    have hne : ∀ m, S m → ¬ m = b := fun m hm e => hSb (e ▸ hm)
    have r1 : RepT H2 (D i).t (D i).six := RepF.rep (T := 26) (S := (D i).S) ⟨_, _, rfl, O.bd i hi, (O.fl i hi).heap (fun m hm hl => hk.keep m hl (hne m (O.sub i m hi hm))) hw⟩
    have r2 : RepT H2 (D j).t (D j).six := RepF.rep (T := 26) (S := (D j).S) ⟨_, _, rfl, O.bd j hj, (O.fl j hj).heap (fun m hm hl => hk.keep m hl (hne m (O.sub j m hj hm))) hw⟩
    exact zjo r1 r2 (h2 i hi) (h2 j hj) (hf i hi) (hf j hj) hk.wf
set_option maxHeartbeats 4000000 in
theorem zjp {t t' : Tm} {cs cs' : List Value} {H : Heap} (r : RepT H t cs) (r' : RepT H t' cs') (hf : Fine t) (hf' : Fine t') (hw : H.wf) :
    EvF Tryd.prog okT 78 [.agg ⟨cs⟩, .agg ⟨cs'⟩] H fun v H' => v = .bool (ordT t t' == 0) ∧ HX H H' := by
  have r0 := r; have r0' := r'
  obtain ⟨a, c, cells, rfl, -, -, -, -, -, rl⟩ := r.six
  obtain ⟨a', c', cells', rfl, -, -, -, -, -, rl'⟩ := r'.six
  refine EvF.enter rfl Tryd.func78 (by decide) rfl ?_
  (repeat refine EvC.seq ?_); refine EvC.reg ?_; simp (config := { maxSteps := 2000000 }) (disch := first | omega | rfl) only [sB, initTm, dBox, Nat.reduceEqDiff, Value.cells, one, reduceCtorEq]
  obtain ⟨H2, e2, hx2, gp, gq, hn2, hw2⟩ := new2 hw (.row (six t a c) 26) (.row (six t' a' c') 26)
  simp only [e2]
  clear e2
  have q1 := row6 gp
  have q2 := row6 gq
  repeat' (first | refine EvC.seq ?_ | refine EvC.scope ?_ | refine EvC.block ?_ | (refine EvC.skip ?_) | (refine EvC.exit ?_) | (refine EvC.ret ?_; try simp only [z01, z00]) | (refine EvC.reg ?_; simp (config := { maxSteps := 2000000 }) (disch := first | omega | rfl) only [sB, Nat.reduceEqDiff, reduceCtorEq, ld26, cl53, q1, q2]))
  refine (z9d (Nat.lt_succ_self _) (r0.mono hx2 hw) (r0'.mono hx2 hw) hf hf' hw2).mono ?_
  rintro v H3 ⟨rfl, hx3⟩
  repeat' (first | refine EvC.seq ?_ | refine EvC.scope ?_ | refine EvC.block ?_ | (refine EvC.skip ?_) | (refine EvC.exit ?_) | (refine EvC.ret ?_; try simp only [z01, z00]) | (refine z0z ?_; simp (config := { maxSteps := 2000000 }) (disch := first | omega | rfl) only [sB, Nat.reduceEqDiff, reduceCtorEq]))
  exact z04 rfl (by simp only [sG, Nat.reduceEqDiff, reduceCtorEq] <;> rfl) ⟨rfl, hx2.trans hx3⟩
end Go.Proofs.YtlllbkjiadcloaaDoor.hb
end

-- So8
section
namespace Go.Hb
open Go Go.RowKit
theorem zbg {α : Type} {k : Nat} {D : Nat → α} : rowF (k + 1) D = rowF k D ++ [D k] := by simp [rowF, List.range_succ]
theorem zfb {α : Type} {k : Nat} {D E : Nat → α} (h : ∀ i, i < k → D i = E i) : rowF k D = rowF k E := by
  unfold rowF
  exact List.map_congr_left fun i hi => h i (List.mem_range.1 hi)
def kpF {α : Type} (eqf : α → α → Bool) (D : Nat → α) (i : Nat) : Bool := i == 0 || !eqf (D i) (D (i - 1))
def ddF {α : Type} (eqf : α → α → Bool) (n : Nat) (D : Nat → α) : List α := ((List.range n).filter (kpF eqf D)).map D
theorem z3w {α : Type} {eqf : α → α → Bool} {n : Nat} {D : Nat → α} : ddF eqf (n + 1) D = ddF eqf n D ++ (if kpF eqf D n = true then [D n] else []) := by
  unfold ddF
  rw [List.range_succ, List.filter_append, List.map_append]
  congr 1
  by_cases h : kpF eqf D n = true
  · simp [h]
  · simp [h]
theorem z9f {α : Type} {eqf : α → α → Bool} {D : Nat → α} : ∀ {n : Nat}, (∀ i, 1 ≤ i → i < n → eqf (D i) (D (i - 1)) = false) → ddF eqf n D = rowF n D
  | 0, _ => rfl
  | n + 1, h => by
    rw [z3w, zbg, z9f fun i h1 h2 => h i h1 (by omega)]
    have : kpF eqf D n = true := by
      unfold kpF
      by_cases h0 : n = 0
      · simp [h0]
      · rw [h n (by omega) (by omega)]; simp
    rw [if_pos this]
theorem zhv {α : Type} {eqf : α → α → Bool} {n : Nat} {D : Nat → α} : List.Sublist (ddF eqf n D) (rowF n D) := (List.filter_sublist).map D
theorem OwnD.part {H : Heap} {T : TypeId} {S : Nat → Prop} {n m : Nat} {D D' : Nat → El} (h : OwnD H T S n D) (hs : List.Sublist (rowF m D') (rowF n D)) : OwnD H T S m D' := by
  have hj : ∀ k, k < m → ∃ j, j < n ∧ D' k = D j := fun k hk => by
    have h1 : D' k ∈ rowF m D' := List.mem_of_getElem? (z4t hk)
    obtain ⟨i, hi, e⟩ := List.mem_map.1 (hs.subset h1)
    exact ⟨i, List.mem_range.1 hi, e.symm⟩
  refine ⟨fun k hk => ?_, fun k x hk hx => ?_, h.one.sublist hs, fun k hk => ?_⟩
  · obtain ⟨j, h1, e⟩ := hj k hk; rw [e]; exact h.bd j h1
  · obtain ⟨j, h1, e⟩ := hj k hk; rw [e] at hx; exact h.sub j x h1 hx
  · obtain ⟨j, h1, e⟩ := hj k hk; rw [e]; exact h.fl j h1
theorem zjq {n : Nat} : (repL n [Value.int .i64 0, .string ByteArray.empty, .string ByteArray.empty, .int .u64 0, .int .i64 0, .slice none 0 0]).all one = true := by
  unfold repL
  induction n with
  | zero => rfl
  | succ n ih => rw [List.replicate_succ, List.flatten_cons, List.all_append, ih]; rfl
theorem zhw {H : Heap} {b o : Nat} {cs vs : List Value} {T : TypeId} (hg : H.get b = some (.row cs T)) (h : o + vs.length ≤ cs.length) (ho : vs.all one = true) : H.store ⟨b, o, none⟩ vs = some (H.put b (some (.row (Hb.splice cs o vs) T))) := by
  unfold Heap.store
  simp only [hg]
  first
    | rw [if_pos ⟨h, ho⟩]
    | simp [h, ho]
end Go.Hb
namespace Go.Proofs.YtlllbkjiadcloaaDoor.hb
open Go Go.RowKit Go.Hb
variable {ok : Ok}
set_option maxRecDepth 10000
attribute [local irreducible] LX LG EL STG SOP SGO SGD SAL SRD SEF SEG SLK SCK ES
structure Eqs (g : FuncId) (H0 : Heap) (b : Nat) (G : El → Prop) (eqf : El → El → Bool) : Prop where
  call : callable Tryd.prog g = true
  run : ∀ x y H, G x → G y → HK (· = b) H0 H → EvF Tryd.prog okT g [.agg ⟨x.six⟩, .agg ⟨y.six⟩] H fun v H' => v = .bool (eqf x y) ∧ HX H H'
set_option maxHeartbeats 16000000 in
theorem zfc {b n c : Nat} {g : FuncId} {G : El → Prop} {eqf : El → El → Bool} {D : Nat → El} {H : Heap} (hn : n ≤ most) (hc : n ≤ c) (C : Eqs g H b G eqf) (hr : RowE H 26 b n D) (hG : ∀ k, k < n → G (D k)) (hw : H.wf) :
    EvF Tryd.prog okT 77 [.slice (some ⟨b, 0, none⟩) n c, cvF g] H fun v H' =>
      ∃ m D', v = .slice (some ⟨b, 0, none⟩) m c ∧ m ≤ n ∧ RowE H' 26 b m D' ∧ rowF m D' = ddF eqf n D ∧ HK (· = b) H H' := by
  have hms : most ≤ 1048576 := by simp [most]
  have hg := C.call
  refine EvF.enter rfl Tryd.func77 (by decide) rfl ?_
  by_cases h2 : n < 2
  · have hd : decide ((n : Int) < 2) = true := decide_eq_true (by omega)
    repeat' (first | refine EvC.seq ?_ | refine EvC.scope ?_ | refine EvC.block ?_ | (refine EvC.skip ?_) | (refine EvC.exit ?_) | (refine EvC.ret ?_; try simp only [z01, z00]) | (refine EvC.reg ?_; simp (config := { maxSteps := 2000000 }) (disch := first | omega | rfl) only [sB, initTm, Nat.reduceEqDiff, reduceCtorEq, ln24, hd]) | (refine EvC.condT ?_ ?_; simp (config := { maxSteps := 2000000 }) (disch := first | omega | rfl) only [sB, Nat.reduceEqDiff, reduceCtorEq]; refine z03 ?_))
    exact z04 rfl (by simp only [sG, Nat.reduceEqDiff, reduceCtorEq] <;> rfl) ⟨n, D, rfl, Nat.le_refl _, hr, (z9f fun i h1 h2 => by omega).symm, HK.refl hw⟩
  have hd : decide ((n : Int) < 2) = false := decide_eq_false (by omega)
  (repeat refine EvC.seq ?_); refine EvC.reg ?_; simp (config := { maxSteps := 2000000 }) (disch := first | omega | rfl) only [sA, initTm]
  (repeat refine EvC.seq ?_); refine EvC.reg ?_; simp (config := { maxSteps := 2000000 }) (disch := first | omega | rfl) only [sB, Nat.reduceEqDiff, reduceCtorEq, ln24, hd]
  (repeat refine EvC.seq ?_); refine EvC.condF (by simp (config := { maxSteps := 2000000 }) (disch := first | omega | rfl) only [sB, Nat.reduceEqDiff, reduceCtorEq]) ?_; (try refine EvC.skip ?_); (try simp only [z02, z0a])
  (repeat refine EvC.seq ?_); refine EvC.reg ?_; simp (config := { maxSteps := 2000000 }) (disch := first | omega | rfl) only [sA]
  refine EvC.join (fun st => ∃ tm H', st = ⟨tm, [], H'⟩ ∧ tm.get 0 = some (.slice (some ⟨b, 0, none⟩) n c) ∧ RowE H' 26 b n D ∧ (∀ i, 1 ≤ i → i < n → eqf (D i) (D (i - 1)) = false) ∧ HK (· = b) H H') ?_ ?_
  rotate_left
  · rintro st ⟨tm, H', rfl, t0, hr', hall, hk⟩
    try simp (config := { maxSteps := 2000000 }) (disch := first | omega | rfl) only [z02]
    repeat' (first | refine EvC.seq ?_ | refine EvC.scope ?_ | refine EvC.block ?_ | (refine EvC.skip ?_) | (refine EvC.exit ?_) | (refine EvC.ret ?_; try simp only [z01, z00]) | (refine EvC.reg ?_; simp (config := { maxSteps := 2000000 }) (disch := first | omega | rfl) only [sB, t0]))
    exact z04 rfl (by simp only [sG, Nat.reduceEqDiff] <;> rfl) ⟨n, D, rfl, Nat.le_refl _, hr', (z9f hall).symm, hk⟩
  refine EvC.block (EvC.loop (fun m st => ∃ tm H' k, st = ⟨tm, [], H'⟩ ∧ m = n - k ∧ 1 ≤ k ∧ k ≤ n ∧ tm.get 0 = some (.slice (some ⟨b, 0, none⟩) n c) ∧ tm.get 1 = some (cvF g) ∧ tm.get 5 = some (.int .i64 (k : Nat)) ∧
    RowE H' 26 b n D ∧ (∀ i, 1 ≤ i → i < k → eqf (D i) (D (i - 1)) = false) ∧ HK (· = b) H H') ?_ (n - 1) _ ?_)
  rotate_left
  · exact ⟨_, _, 1, rfl, rfl, Nat.le_refl _, by omega, (by simp only [sG, reduceCtorEq] <;> rfl), (by simp only [sG, Nat.reduceEqDiff, reduceCtorEq] <;> rfl), (by simp only [sB, Nat.reduceEqDiff, reduceCtorEq] <;> rfl), hr, fun i h1 h2 => by omega, HK.refl hw⟩
  rintro m st ⟨tm, H', k, rfl, rfl, hk1, hkn, t0, t1, t5, hr', hall, hk⟩
  by_cases hlt : k < n
  rotate_left
  · obtain rfl : k = n := by omega
    repeat' (first | refine EvC.seq ?_ | refine EvC.scope ?_ | refine EvC.block ?_ | (refine EvC.skip ?_) | (refine EvC.exit ?_; try simp only [sB]) | (refine EvC.ret ?_; try simp only [z01, z00]) | (refine EvC.reg ?_; simp (config := { maxSteps := 2000000 }) (disch := first | omega | rfl) only [sB, Nat.reduceEqDiff, reduceCtorEq, ln24, t0, t5, decn hlt]) | (refine EvC.condT ?_ ?_; simp (config := { maxSteps := 2000000 }) (disch := first | omega | rfl) only [sB, Nat.reduceEqDiff]; refine z03 ?_) | (refine EvC.condF ?_ ?_; simp (config := { maxSteps := 2000000 }) (disch := first | omega | rfl) only [sB, Nat.reduceEqDiff]; refine z03 ?_))
    exact ⟨_, _, rfl, (by simp only [sG, reduceCtorEq, t0] <;> rfl), hr', hall, hk⟩
  have k1 : k - 1 < n := by omega
  have l1 := hr'.load hlt
  have l2 := hr'.load k1
  obtain ⟨cells0, hg0, -, -⟩ := hr'.row
  have hbl := hk.wf _ _ hg0
  have hb := hk.bump 11
  repeat' (first | refine EvC.seq ?_ | refine EvC.scope ?_ | refine EvC.block ?_ | (refine EvC.skip ?_; try simp only [z02]) | (refine EvC.exit ?_) | (refine EvC.ret ?_; try simp only [z01, z00]) | (refine EvC.reg ?_; simp (config := { maxSteps := 2000000 }) (disch := first | omega | rfl) only [sB, Nat.reduceEqDiff, reduceCtorEq, ln24, t0, t5, decl hlt]) | (refine EvC.drw (id := 6) [([(0, 0), (1, 0), (2, 0), (3, 0), (4, 0), (5, 0), (6, 0), (7, 0), (8, 0), (9, 0)], some 10), ([], none)] ?_ ?_; kernel_rfl; simp (config := { maxSteps := 2000000 }) (disch := first | omega | rfl) only [sD, sB, Nat.reduceEqDiff, Nat.reduceAdd, reduceCtorEq, ia24, ld26, t0, t1, t5, zb4 (i := k) hk1 (by omega), l1, l2, z2w, z21 hg, isAlloc, isRead, reduceCtorEq]) | (refine EvC.condT ?_ ?_; simp (config := { maxSteps := 2000000 }) (disch := first | omega | rfl) only [sB, Nat.reduceEqDiff]; refine z03 ?_))
  refine (C.run _ _ _ (hG _ hlt) (hG _ k1) hb).mono ?_
  rintro v H2 ⟨rfl, hx2⟩
  have hk2 := hb.hxs hx2
  have r2 := hr'.heap (H' := H2) (by rw [hx2.keep b (Nat.lt_add_right _ hbl)]; rfl)
  cases he : eqf (D k) (D (k - 1))
  · repeat' (first | refine EvC.seq ?_ | refine EvC.scope ?_ | refine EvC.block ?_ | (refine EvC.skip ?_; try simp only [sA]) | (refine EvC.exit ?_) | (refine EvC.ret ?_; try simp only [z01, z00]) | (refine EvC.reg ?_; simp (config := { maxSteps := 2000000 }) (disch := first | omega | rfl) only [sB, Nat.reduceEqDiff, t5, z5f (i := k) (by omega)]) | (refine z0n ?_; simp (config := { maxSteps := 2000000 }) (disch := first | omega | rfl) only [sD, z5s]) | (refine EvC.condT ?_ ?_; simp (config := { maxSteps := 2000000 }) (disch := first | omega | rfl) only [sB, Nat.reduceEqDiff]; refine z03 ?_) | (refine EvC.condF ?_ ?_; simp (config := { maxSteps := 2000000 }) (disch := first | omega | rfl) only [sB, Nat.reduceEqDiff]; refine z03 ?_))
    exact ⟨n - (k + 1), by omega, _, _, k + 1, rfl, rfl, by omega, by omega, (by simp only [sG, reduceCtorEq, t0] <;> rfl), (by simp only [sG, Nat.reduceEqDiff, t1] <;> rfl), (by simp only [sG, Nat.reduceEqDiff] <;> rfl), r2, fun i h1 h2 => by
      by_cases e1 : i = k
      · subst e1; exact he
      · exact hall i h1 (by omega), hk2⟩
  obtain ⟨cells2, hg2, -, -⟩ := r2.row
  have hbl2 := hk2.wf _ _ hg2
  have esl := zg5 (P := Tryd.prog) (t := 24) (e := 26) (s := 6) (b := b) (o := 0) (n := n) (c := c) (l := k) (k := .i64) sl24 hkn hk1 (by omega) hg2 (.inl ⟨_, rfl⟩)
  rw [Nat.zero_add] at esl
  repeat' (first | refine EvC.seq ?_ | refine EvC.scope ?_ | refine EvC.block ?_ | (refine EvC.skip ?_) | (refine EvC.exit ?_) | (refine EvC.ret ?_; try simp only [z01, z00]) | (refine EvC.reg ?_; simp (config := { maxSteps := 2000000 }) (disch := first | omega | rfl) only [sB, Nat.reduceEqDiff, reduceCtorEq, t0, t5, esl]) | (refine z0n ?_; simp (config := { maxSteps := 2000000 }) (disch := first | omega | rfl) only [sD, z5s]) | (refine EvC.condT ?_ ?_; simp (config := { maxSteps := 2000000 }) (disch := first | omega | rfl) only [sB, Nat.reduceEqDiff]; refine z03 ?_))
  have hkk : ddF eqf (k + 1) D = rowF k D := by
    rw [z3w, z9f hall, if_neg (by unfold kpF; rw [he]; simp; omega), List.append_nil]
  refine EvC.loop (fun m st => ∃ tm H' j q D', st = ⟨tm, [], H'⟩ ∧ m = n - k - q ∧ 1 ≤ q ∧ k + q ≤ n ∧ 1 ≤ j ∧ j + 1 ≤ k + q ∧ tm.get 0 = some (.slice (some ⟨b, 0, none⟩) n c) ∧ tm.get 1 = some (cvF g) ∧ tm.get 5 = some (.int .i64 (j : Nat)) ∧
    tm.get 6 = some (.slice (some ⟨b, k * 6, none⟩) (n - k) (c - k)) ∧ tm.get 7 = some (.int .i64 (q : Nat)) ∧ RowE H' 26 b n D' ∧ rowF j D' = ddF eqf (k + q) D ∧ (∀ i, k + q ≤ i + 1 → i < n → D' i = D i) ∧ HK (· = b) H H') ?_ (n - k - 1) _ ?_
  rotate_left
  · exact ⟨_, _, k, 1, D, rfl, rfl, Nat.le_refl _, by omega, hk1, by omega, (by simp only [sG, reduceCtorEq, t0] <;> rfl), (by simp only [sG, Nat.reduceEqDiff, t1] <;> rfl), (by simp only [sG, Nat.reduceEqDiff, t5] <;> rfl), (by simp only [sG, Nat.reduceEqDiff] <;> rfl), (by simp only [sB, Nat.reduceEqDiff] <;> rfl), r2, hkk.symm, fun _ _ _ => rfl, hk2⟩
  clear t0 t1 t5 hr' hall hk hk2 r2 hg2 hbl2 esl l1 l2 hg0 hbl hb hx2
  rintro m st ⟨tm, H', j, q, D', rfl, rfl, hq1, hqn, hj1, hjq, t0, t1, t5, t6, t7, hr', hdd, hsame, hk⟩
  obtain ⟨cells, hg2, hcl, hce⟩ := hr'.row
  have hbl := hk.wf _ _ hg2
  by_cases hlt2 : q < n - k
  · have x1 : k + q < n := by omega
    have x2 : k + (q - 1) < n := by omega
    have l1 : H'.load ⟨b, k * 6 + q * 6, none⟩ 6 = some (D (k + q)).six := by rw [← Nat.add_mul, ← hsame _ (by omega) x1]; exact hr'.load x1
    have l2 : H'.load ⟨b, k * 6 + (q - 1) * 6, none⟩ 6 = some (D (k + (q - 1))).six := by rw [← Nat.add_mul, ← hsame _ (by omega) x2]; exact hr'.load x2
    have x3 : q - 1 < n - k := by omega
    have hb := hk.bump 12
    repeat' (first | refine EvC.seq ?_ | refine EvC.scope ?_ | refine EvC.block ?_ | (refine EvC.skip ?_; try simp only [z02]) | (refine EvC.exit ?_) | (refine EvC.ret ?_; try simp only [z01, z00]) | (refine EvC.reg ?_; simp (config := { maxSteps := 2000000 }) (disch := first | omega | rfl) only [sB, Nat.reduceEqDiff, ln24, t6, t7, decl hlt2]) | (refine EvC.drw (id := 11) [([(0, 0), (1, 0), (2, 0), (3, 0), (4, 0), (5, 0), (6, 0), (7, 0), (8, 0), (9, 0)], some 10), ([(11, 1)], none)] ?_ ?_; kernel_rfl; simp (config := { maxSteps := 2000000 }) (disch := first | omega | rfl) only [sD, sB, Nat.reduceEqDiff, Nat.reduceAdd, reduceCtorEq, ia24, ld26, t1, t6, t7, zb4 (i := q) hq1 (by omega), l1, l2, z2w, z21 hg, isAlloc, isRead, reduceCtorEq]) | (refine EvC.condT ?_ ?_; simp (config := { maxSteps := 2000000 }) (disch := first | omega | rfl) only [sB, Nat.reduceEqDiff]; refine z03 ?_))
    refine (C.run _ _ _ (hG _ x1) (hG _ x2) hb).mono ?_
    rintro v H2 ⟨rfl, hx2⟩
    have hk2 := hb.hxs hx2
    have hkeep : H2.get b = H'.get b := by rw [hx2.keep b (Nat.lt_add_right _ hbl)]; rfl
    have r2 := hr'.heap (H' := H2) hkeep
    have hkp : kpF eqf D (k + q) = !eqf (D (k + q)) (D (k + (q - 1))) := by
      unfold kpF
      rw [show k + q - 1 = k + (q - 1) by omega, show (k + q == 0) = false by simp; omega]; rfl
    cases he2 : eqf (D (k + q)) (D (k + (q - 1)))
    · have l1' : H2.load ⟨b, k * 6 + q * 6, none⟩ 6 = some (D (k + q)).six := by rw [← Nat.add_mul, ← hsame _ (by omega) x1]; exact r2.load x1
      have hgb : H2.get b = some (.row cells 26) := by rw [hkeep]; exact hg2
      have hbl2 := hk2.wf _ _ hgb
      have x4 : j < n := by omega
      have le1 : j * 6 + 6 ≤ cells.length := by have := mul6 x4; omega
      have hpt := RowE.put (H := H2) (b := b) (T := 26) hcl hce x4 (D (k + q))
      repeat' (first | refine EvC.seq ?_ | refine EvC.scope ?_ | refine EvC.block ?_ | (refine EvC.skip ?_) | (refine EvC.exit ?_) | (refine EvC.ret ?_; try simp only [z01, z00]) | (refine EvC.reg ?_; simp (config := { maxSteps := 2000000 }) (disch := first | omega | rfl) only [sB, Nat.reduceEqDiff, Nat.reduceAdd, one, reduceCtorEq, ia24, ld26, st26, t0, t5, t6, t7, l1', hgb, le1, z5f (i := j) (by omega), z5f (i := q) (by omega)]) | (refine z0n ?_; simp (config := { maxSteps := 2000000 }) (disch := first | omega | rfl) only [sD, sB, Nat.reduceEqDiff, Bool.not_false, isAlloc, isRead]) | (refine EvC.condT ?_ ?_; simp (config := { maxSteps := 2000000 }) (disch := first | omega | rfl) only [sB, Nat.reduceEqDiff]; refine z03 ?_))
      refine ⟨n - k - (q + 1), by omega, _, _, j + 1, q + 1, _, rfl, rfl, by omega, by omega, by omega, by omega, (by simp only [sG, reduceCtorEq, t0] <;> rfl), (by simp only [sG, Nat.reduceEqDiff, t1] <;> rfl), (by simp only [sG, Nat.reduceEqDiff] <;> rfl), (by simp only [sG, Nat.reduceEqDiff, t6] <;> rfl), (by simp only [sG, Nat.reduceEqDiff] <;> rfl), hpt, ?_, fun i i1 i2 => ?_, hk2.put (.inl rfl) hbl2 _⟩
      · rw [zbg, if_pos rfl, ← Nat.add_assoc, z3w, hkp, he2, ← hdd]
        rw [zfb (E := D') (fun i hi => by rw [if_neg (by omega)])]
        rfl
      · rw [if_neg (by omega)]; exact hsame i (by omega) i2
    · repeat' (first | refine EvC.seq ?_ | refine EvC.scope ?_ | refine EvC.block ?_ | (refine EvC.skip ?_; try simp only [sA]) | (refine EvC.exit ?_) | (refine EvC.ret ?_; try simp only [z01, z00]) | (refine EvC.reg ?_; simp (config := { maxSteps := 2000000 }) (disch := first | omega | rfl) only [sB, Nat.reduceEqDiff, t7, z5f (i := q) (by omega)]) | (refine z0n ?_; simp (config := { maxSteps := 2000000 }) (disch := first | omega | rfl) only [sD, sB, Nat.reduceEqDiff, Bool.not_true, isAlloc, isRead]) | (refine EvC.condT ?_ ?_; simp (config := { maxSteps := 2000000 }) (disch := first | omega | rfl) only [sB, Nat.reduceEqDiff]; refine z03 ?_) | (refine EvC.condF ?_ ?_; simp (config := { maxSteps := 2000000 }) (disch := first | omega | rfl) only [sB, Nat.reduceEqDiff]; refine z03 ?_))
      refine ⟨n - k - (q + 1), by omega, _, _, j, q + 1, D', rfl, rfl, by omega, by omega, hj1, by omega, (by simp only [sG, reduceCtorEq, t0] <;> rfl), (by simp only [sG, Nat.reduceEqDiff, t1] <;> rfl), (by simp only [sG, Nat.reduceEqDiff, t5] <;> rfl), (by simp only [sG, Nat.reduceEqDiff, t6] <;> rfl), (by simp only [sG, Nat.reduceEqDiff] <;> rfl), r2, ?_, fun i i1 i2 => hsame i (by omega) i2, hk2⟩
      rw [hdd, ← Nat.add_assoc, z3w, hkp, he2]
      simp
  · have hqe : k + q = n := by omega
    have x4 : j < n := by omega
    have esl := zg5 (P := Tryd.prog) (t := 24) (e := 26) (s := 6) (b := b) (o := 0) (n := n) (c := c) (l := j) (k := .i64) sl24 (by omega) hj1 (by omega) hg2 (.inl ⟨_, rfl⟩)
    rw [Nat.zero_add] at esl
    have hln : (repL (n - j) zero6).length = (n - j) * 6 := by rw [z49]; rfl
    have hle : j * 6 + (repL (n - j) zero6).length ≤ cells.length := by rw [hln]; have := mul6 x4; omega
    have eclr := zg7 (c := c - j) mk24 (by omega) (zhw hg2 hle zjq)
    have ehi := fun H2 => z80 (P := Tryd.prog) (H := H2) (t := 24) (e := 26) (s := 6) (a := some ⟨b, 0, none⟩) (n := n) (c := c) (m := j) (k := .i64) sl24 (by omega)
    repeat' (first | refine EvC.seq ?_ | refine EvC.scope ?_ | refine EvC.block ?_ | (refine EvC.skip ?_) | (refine EvC.exit ?_; try simp only [sB, Nat.reduceEqDiff, reduceCtorEq]) | (refine EvC.ret ?_; try simp only [z01, z00]) | (refine EvC.reg ?_; simp (config := { maxSteps := 2000000 }) (disch := first | omega | rfl) only [sB, Nat.reduceEqDiff, reduceCtorEq, ln24, t0, t5, t6, t7, decn hlt2, esl, zg6, eclr, ehi]) | (refine EvC.condT ?_ ?_; simp (config := { maxSteps := 2000000 }) (disch := first | omega | rfl) only [sB, Nat.reduceEqDiff]; refine z03 ?_) | (refine EvC.condF ?_ ?_; simp (config := { maxSteps := 2000000 }) (disch := first | omega | rfl) only [sB, Nat.reduceEqDiff]; refine z03 ?_))
    refine z04 rfl (by simp only [sG, Nat.reduceEqDiff] <;> rfl) ⟨j, D', rfl, by omega, ⟨⟨_, by rw [get_put, if_pos rfl], by rw [z0s hle]; omega, fun i hi => ?_⟩⟩, by rw [hdd, hqe], hk.put (.inl rfl) hbl _⟩
    rw [← hce i (by omega)]
    apply List.ext_getElem?
    intro x
    rw [List.getElem?_take, List.getElem?_drop, z78 hle, List.getElem?_take, List.getElem?_drop]
    have := mul6 hi
    split
    · rw [if_neg (by omega)]
    · rfl
end Go.Proofs.YtlllbkjiadcloaaDoor.hb
end

-- So9
section
namespace Go.Hb
open Go Go.RowKit
def zT0 : Tm := .mk 0 ByteArray.empty ByteArray.empty 0 0 []
theorem zbh {α : Type} {eqf : α → α → Bool} {D E : Nat → α} : ∀ {n : Nat}, (∀ i, i < n → D i = E i) → ddF eqf n D = ddF eqf n E
  | 0, _ => rfl
  | n + 1, h => by
    rw [z3w, z3w, zbh fun i hi => h i (by omega)]
    unfold kpF
    rw [h n (by omega)]
    by_cases h0 : n = 0
    · subst h0; simp
    · rw [h (n - 1) (by omega)]
theorem zmh {α β : Type} {eqf : α → α → Bool} {eqg : β → β → Bool} (f : α → β) (h : ∀ x y, eqf x y = eqg (f x) (f y)) {n : Nat} {D : Nat → α} : (ddF eqf n D).map f = ddF eqg n (fun i => f (D i)) := by
  unfold ddF
  rw [List.map_map]
  have : kpF eqf D = kpF eqg fun i => f (D i) := by funext i; unfold kpF; rw [h]
  rw [this]; rfl
structure Ins (cmp : Nat → Nat → Int) (n i : Nat) (E : List Nat) : Prop where
  srt : Srt cmp E
  stb : Stb (fun k => k < n) cmp (List.range i) E
theorem Ins.zero {cmp : Nat → Nat → Int} {n : Nat} : Ins cmp n 0 [] := ⟨List.Pairwise.nil, .refl _⟩
theorem Ins.len {cmp : Nat → Nat → Int} {n i : Nat} {E : List Nat} (h : Ins cmp n i E) : E.length = i := by rw [← h.stb.perm.length_eq]; simp
theorem Ins.mem {cmp : Nat → Nat → Int} {n i : Nat} {E : List Nat} (h : Ins cmp n i E) {k : Nat} (hk : k ∈ E) : k < i := List.mem_range.1 (h.stb.perm.mem_iff.2 hk)
theorem Ins.step {cmp : Nat → Nat → Int} {n i k : Nat} {E : List Nat} (o : Ordr (fun k => k < n) cmp) (h : Ins cmp n i E) (hi : i < n) (hk : k ≤ E.length) (h1 : ∀ j (hj : j < E.length), k ≤ j → cmp i E[j] < 0) (h2 : ∀ (_ : 0 < k), ¬ cmp i (E[k - 1]'(by omega)) < 0) :
    Ins cmp n (i + 1) (E.take k ++ [i] ++ E.drop k) := by
  have hE : ∀ x ∈ E, x < n := fun x hx => Nat.lt_trans (h.mem hx) hi
  have lo : ∀ x ∈ E.take k, cmp x i ≤ 0 := fun x hx => by
    obtain ⟨j, hj, rfl⟩ := List.mem_iff_getElem.1 hx
    rw [List.length_take] at hj
    have hk0 : 0 < k := by omega
    rw [List.getElem_take]
    have e1 := h2 hk0
    have a1 := o.anti i (E[k - 1]'(by omega)) hi (hE _ (List.getElem_mem _))
    by_cases hjk : j = k - 1
    · subst hjk; omega
    · exact o.le _ _ _ (hE _ (List.getElem_mem _)) (hE _ (List.getElem_mem (by omega : k - 1 < E.length))) hi (List.pairwise_iff_getElem.1 h.srt j (k - 1) (by omega) (by omega) (by omega)) (by omega)
  have hi' : ∀ x ∈ E.drop k, cmp i x < 0 := fun x hx => by
    obtain ⟨j, hj, rfl⟩ := List.mem_iff_getElem.1 hx
    rw [List.length_drop] at hj
    rw [List.getElem_drop]
    exact h1 _ (by omega) (by omega)
  constructor
  · have hs : Srt cmp (E.take k ++ E.drop k) := by rw [List.take_append_drop]; exact h.srt
    unfold Srt at hs ⊢
    rw [List.pairwise_append] at hs
    rw [List.append_assoc, List.pairwise_append]
    refine ⟨hs.1, ?_, fun x hx y hy => ?_⟩
    · rw [List.singleton_append, List.pairwise_cons]
      exact ⟨fun x hx => Int.le_of_lt (hi' x hx), hs.2.1⟩
    · rw [List.singleton_append] at hy
      rcases List.mem_cons.1 hy with rfl | hy
      · exact lo x hx
      · exact hs.2.2 x hx y hy
  · rw [List.range_succ]
    refine (h.stb.append (.refl [i])).trans ?_
    have e : E ++ [i] = E.take k ++ (E.drop k ++ [i]) := by rw [← List.append_assoc, List.take_append_drop]
    rw [e, List.append_assoc]
    refine (Stb.refl _).append (Stb.swap o (fun x hx => hE x (List.mem_of_mem_drop hx)) (fun x hx => by rw [List.mem_singleton.1 hx]; exact hi) fun x hx y hy => ?_)
    rw [List.mem_singleton.1 hy]; exact hi' x hx
def Src (H : Heap) (s : Nat) (L : List (List Value)) (v : Value) (b : Nat) : Prop :=
  (L = [] ∧ ∃ a c, v = .slice a 0 c) ∨ ∃ o c, v = .slice (some ⟨b, o, none⟩) L.length c ∧ 0 < L.length ∧ H.load ⟨b, o, none⟩ (L.length * s) = some L.flatten
theorem zjr {H H' : Heap} {b o k : Nat} (hg : H'.get b = H.get b) : H'.load ⟨b, o, none⟩ k = H.load ⟨b, o, none⟩ k := by
  unfold Heap.load Heap.cells
  simp only [hg]
theorem Src.heap {H H' : Heap} {s : Nat} {L : List (List Value)} {v : Value} {b : Nat} (h : Src H s L v b) (hg : H'.get b = H.get b) : Src H' s L v b := by
  rcases h with h | ⟨o, c, h1, h2, h3⟩
  · exact .inl h
  · exact .inr ⟨o, c, h1, h2, by rw [zjr hg]; exact h3⟩
theorem OwnS.loads {H : Heap} {e : TypeId} {s base b c : Nat} {L : List (List Value)} (h : OwnS H e s base L b c) {k m : Nat} (hk : k + m ≤ L.length) : H.load ⟨b, k * s, none⟩ (m * s) = some ((L.drop k).take m).flatten := by
  obtain ⟨cs, hg, hl, ht⟩ := h.row
  have hle : k * s + m * s ≤ L.length * s := by rw [← Nat.add_mul]; exact Nat.mul_le_mul_right _ hk
  have hc : H.cells b = some cs := by unfold Heap.cells; rw [hg]
  have hsz : ∀ (A : List (List Value)), (∀ x ∈ A, x.length = s) → A.flatten.length = A.length * s := fun A hA => z2a A hA
  have e1 : (cs.drop (k * s)).take (m * s) = ((L.drop k).take m).flatten := by
    have e2 : (cs.drop (k * s)).take (m * s) = (L.flatten.drop (k * s)).take (m * s) := by
      rw [← ht, List.drop_take, List.take_take]; congr 1; omega
    rw [e2]
    conv => lhs; rw [← List.take_append_drop k L, ← List.take_append_drop m (L.drop k)]
    rw [List.flatten_append, List.flatten_append]
    have l1 : (L.take k).flatten.length = k * s := by rw [hsz _ fun x hx => h.sz x (List.mem_of_mem_take hx), List.length_take]; congr 1; omega
    have l2 : ((L.drop k).take m).flatten.length = m * s := by rw [hsz _ fun x hx => h.sz x (List.mem_of_mem_drop (List.mem_of_mem_take hx)), List.length_take, List.length_drop]; congr 1; omega
    rw [List.drop_append, l1, List.drop_eq_nil_of_le (by omega), List.nil_append, Nat.sub_self, List.drop_zero, List.take_append, l2, Nat.sub_self, List.take_zero, List.append_nil, List.take_of_length_le (by omega)]
  have l2 : ((L.drop k).take m).flatten.length = m * s := by rw [hsz _ fun x hx => h.sz x (List.mem_of_mem_drop (List.mem_of_mem_take hx)), List.length_take, List.length_drop]; congr 1; omega
  unfold Heap.load
  simp only [hc, e1]
  rw [if_pos (by rw [Nat.beq_eq]; exact l2)]
theorem RepO.upto {P : Program} {t e : TypeId} {H : Heap} {s base k : Nat} {L : List (List Value)} {a : Option Addr} {c : Nat} (h : RepO H e s base L (.slice a L.length c)) (hp : slcOk P t e s) (hk : k ≤ L.length) :
    dSl P t (.slice a L.length c) none (some (.int .i64 (k : Nat))) none H = some (.val (.slice a k c) H) ∧ ∀ b, (∀ ad, a = some ad → ad.block = b) → Src H s (L.take k) (.slice a k c) b := by
  have hc : L.length ≤ c := by
    rcases h with ⟨rfl, h2⟩ | ⟨b', c', h1, h2⟩
    · exact Nat.zero_le _
    · cases h2; exact h1.len
  refine ⟨z80 hp (by omega), fun b hb => ?_⟩
  by_cases h0 : k = 0
  · subst h0; exact .inl ⟨by simp, _, _, rfl⟩
  rcases h with ⟨rfl, h2⟩ | ⟨b', c', h1, h2⟩
  · simp at hk; omega
  · cases h2
    have hb' := hb _ rfl
    subst hb'
    have hlt : (L.take k).length = k := by rw [List.length_take]; omega
    refine .inr ⟨0, c, by rw [hlt], by omega, ?_⟩
    have := h1.loads (k := 0) (m := k) (by omega)
    rw [Nat.zero_mul, List.drop_zero] at this
    rw [hlt]; exact this
theorem RepO.from {P : Program} {t e : TypeId} {H : Heap} {s base k : Nat} {L : List (List Value)} {a : Option Addr} {c : Nat} (h : RepO H e s base L (.slice a L.length c)) (hp : slcOk P t e s) (hk : k ≤ L.length) {b : Nat} (hb : ∀ ad, a = some ad → ad.block = b) :
    ∃ v, (∀ H1 : Heap, (∀ ad, a = some ad → H1.get ad.block = H.get ad.block) → dSl P t (.slice a L.length c) (some (.int .i64 (k : Nat))) none none H1 = some (.val v H1)) ∧ Src H s (L.drop k) v b := by
  obtain ⟨p1, p2, p3⟩ := hp
  obtain ⟨j, hj⟩ := Option.isSome_iff_exists.1 p2
  by_cases h0 : k = 0
  · subst h0
    refine ⟨.slice a L.length c, fun H1 _ => ?_, ?_⟩
    · simp only [dSl, dslice, p1, hj, bound, z18 hk]
      rfl
    · rcases h with ⟨rfl, h2⟩ | ⟨b', c', h1, h2⟩
      · exact .inl ⟨rfl, _, _, rfl⟩
      · cases h2
        have hb' := hb _ rfl
        subst hb'
        by_cases hL : L.length = 0
        · have : L = [] := List.length_eq_zero_iff.1 hL
          subst this
          exact .inl ⟨rfl, _, _, rfl⟩
        refine .inr ⟨0, c, rfl, by simp; omega, ?_⟩
        have := h1.loads (k := 0) (m := L.length) (by omega)
        rw [Nat.zero_mul, List.drop_zero, List.take_of_length_le (Nat.le_refl _)] at this
        rw [List.drop_zero]; exact this
  rcases h with ⟨rfl, h2⟩ | ⟨b', c', h1, h2⟩
  · simp at hk; omega
  · cases h2
    have hb' := hb _ rfl
    subst hb'
    have hcl := h1.len
    by_cases hkc : k = c
    · refine ⟨.slice (some ⟨0, 0, some 0⟩) 0 0, fun H1 _ => ?_, .inl ⟨List.drop_eq_nil_of_le (by omega), _, _, rfl⟩⟩
      have e0 : Nat.beq k 0 = false := by rw [← Bool.not_eq_true, Nat.beq_eq]; omega
      have e1 : Nat.beq k c = true := by rw [Nat.beq_eq]; exact hkc
      simp only [dSl, dslice, p1, hj, bound, z18 hk, e0, e1]
      rfl
    · obtain ⟨cs, hg, hl, ht⟩ := h1.row
      refine ⟨_, fun H1 h1g => zg5 (P := P) (t := t) (e := e) (s := s) (b := b') (o := 0) (n := L.length) (c := c) (l := k) (k := .i64) ⟨p1, p2, p3⟩ hk (by omega) (by omega) ((h1g _ rfl).trans hg) (.inl ⟨_, rfl⟩), ?_⟩
      by_cases hkl : k = L.length
      · exact .inl ⟨List.drop_eq_nil_of_le (by omega), _, _, by rw [hkl, Nat.sub_self]⟩
      · have hld : (L.drop k).length = L.length - k := List.length_drop
        refine .inr ⟨0 + k * s, c - k, by rw [hld], by omega, ?_⟩
        have := h1.loads (k := k) (m := L.length - k) (by omega)
        rw [List.take_of_length_le (by omega)] at this
        rw [hld, Nat.zero_add]; exact this
theorem OwnS.app {P : Program} {t e : TypeId} {H : Heap} {s base b c b' : Nat} {L L' : List (List Value)} {w : Value} (h : OwnS H e s base L b c) (hp : apOk P t e s) (hs : Src H s L' w b') (hz : ∀ x ∈ L', x.length = s) (ha : ∀ x ∈ L', x.all one = true) (hm : L.length + L'.length ≤ most) (hb : base ≤ H.next) (hw : H.wf) :
    ∃ H2 b2 c2, dAp P #[t, t] (.slice (some ⟨b, 0, none⟩) L.length c) w H = some (.val (.slice (some ⟨b2, 0, none⟩) (L ++ L').length c2) H2) ∧ OwnS H2 e s base (L ++ L') b2 c2 ∧ HK (· = b) H H2 ∧ (b2 = b ∨ H.next ≤ b2) := by
  rcases hs with ⟨rfl, a', c', rfl⟩ | ⟨o, c', rfl, hpos, hl⟩
  · refine ⟨H, b, c, ?_, by rw [List.append_nil]; exact h, HK.refl hw, .inl rfl⟩
    rw [List.append_nil]; exact zlf hp
  · have hmax : most ≤ maxLen := by simp [most, maxLen]
    obtain ⟨cs, hg, hle, ht⟩ := h.row
    have hone : L'.flatten.all one = true := by
      rw [List.all_eq_true]
      intro z hz
      obtain ⟨x, hx1, hx2⟩ := List.mem_flatten.1 hz
      exact List.all_eq_true.1 (ha x hx1) z hx2
    have hone' : (cs.take (L.length * s)).all one = true := by
      rw [ht, List.all_eq_true]
      intro z hz
      obtain ⟨x, hx1, hx2⟩ := List.mem_flatten.1 hz
      exact List.all_eq_true.1 (h.all x hx1) z hx2
    have hfl : (L ++ L').flatten = cs.take (L.length * s) ++ L'.flatten := by rw [List.flatten_append, ht]
    have hsz : ∀ x ∈ L ++ L', x.length = s := fun x hx => by
      rcases List.mem_append.1 hx with hx | hx
      · exact h.sz x hx
      · exact hz x hx
    have hln : (L ++ L').length = L.length + L'.length := List.length_append
    refine ⟨(H.put b none).new (some (.row (cs.take (L.length * s) ++ L'.flatten) e)), H.next, L.length + L'.length, ?_, ⟨hb, ?_, ⟨cs.take (L.length * s) ++ L'.flatten, z0q, ?_, ?_⟩, by omega, by omega, hsz, fun x hx => ?_⟩, ((HK.refl (S := (· = b)) hw).put (.inl rfl) (hw _ _ hg) none).new _, .inr (Nat.le_refl _)⟩
    · rw [hln]; exact z6p hp hpos hm hl hone hg hle hone'
    · show H.next < _ + 1
      rw [z2m]; omega
    · rw [← hfl, z2a _ hsz]; exact Nat.le_refl _
    · rw [← hfl, List.take_of_length_le (by rw [z2a _ hsz]; exact Nat.le_refl _)]
    · rcases List.mem_append.1 hx with hx | hx
      · exact h.all x hx
      · exact ha x hx
end Go.Hb
namespace Go.Proofs.YtlllbkjiadcloaaDoor.hb
open Go Go.RowKit Go.Hb
variable {ok : Ok}
set_option maxRecDepth 10000
attribute [local irreducible] LX LG EL STG SOP SGO SGD SAL SRD SEF SEG SLK SCK ES
structure Srtd (key : Tm → Tm) (l m : List Tm) : Prop where
  srt : Srt (fun x y => ordT (key x) (key y)) m
  stb : Stb (fun t => t ∈ l) (fun x y => ordT (key x) (key y)) l m
theorem zjs {key : Tm → Tm} {l : List Tm} (hf : ∀ t ∈ l, Fine (key t)) : Ordr (fun t => t ∈ l) (fun x y => ordT (key x) (key y)) :=
  ⟨fun x y _ _ => z3n _ _, fun x y z hx hy hz => (TT.terms _ _ _ _ (Nat.lt_succ_self _) (hf x hx) (hf y hy) (hf z hz)).1⟩
theorem Srtd.one {key : Tm → Tm} {l m m' : List Tm} (hf : ∀ t ∈ l, Fine (key t)) (h : Srtd key l m) (h' : Srtd key l m') : m = m' :=
  Srt.one (zjs hf) (fun x hx => h.stb.perm.mem_iff.2 hx) h.srt h'.srt (h.stb.symm.trans h'.stb)
theorem Srtd.len {key : Tm → Tm} {l m : List Tm} (h : Srtd key l m) : m.length = l.length := h.stb.perm.length_eq.symm
theorem Srtd.mem {key : Tm → Tm} {l m : List Tm} (h : Srtd key l m) {t : Tm} (ht : t ∈ m) : t ∈ l := h.stb.perm.mem_iff.2 ht
theorem Srtd.rows {key : Tm → Tm} {l : List Tm} {n : Nat} {D D' : Nat → El} {G : El → Prop} (e : (rowF n D).map El.t = l) (hG : ∀ k, k < n → G (D k)) (m : Mv G (fun x y => ordT (key x.t) (key y.t)) 0 n D D') (o : InO (fun x y => ordT (key x.t) (key y.t)) 0 n D') : Srtd key l ((rowF n D').map El.t) := by
  constructor
  · have := o.srt
    unfold Srt at this ⊢
    rw [List.pairwise_map]; exact this
  · have h := (m.stb n (Nat.le_refl _)).map (cmp' := fun x y => ordT (key x) (key y)) El.t (fun _ _ => rfl)
    rw [e] at h
    refine ⟨h.perm, fun t ht => h.eq t ?_⟩
    rw [← e] at ht
    obtain ⟨x, hx, rfl⟩ := List.mem_map.1 ht
    obtain ⟨k, hk, rfl⟩ := List.mem_map.1 hx
    exact ⟨_, hG k (List.mem_range.1 hk), rfl⟩
noncomputable def onceL (l : List Tm) : List Tm := ddF (fun x y => ordT x y == 0) l.length (fun i => l.getD i zT0)
theorem zfd {n : Nat} {D : Nat → El} : (ddF (fun x y => ordT x.t y.t == 0) n D).map El.t = onceL ((rowF n D).map El.t) := by
  rw [zmh (eqg := fun x y => ordT x y == 0) El.t fun _ _ => rfl]
  unfold onceL
  have hl : ((rowF n D).map El.t).length = n := by rw [List.length_map, z0x]
  rw [hl]
  refine zbh fun i hi => ?_
  rw [List.getD, List.getElem?_map, z4t hi]; rfl
theorem zbi {l : List Tm} : List.Sublist (onceL l) l := by
  have h : List.Sublist (onceL l) (rowF l.length fun i => l.getD i zT0) := zhv
  have e : (rowF l.length fun i => l.getD i zT0) = l := by
    apply List.ext_getElem?
    intro i
    by_cases hi : i < l.length
    · rw [z4t hi, List.getD, List.getElem?_eq_getElem hi]; rfl
    · rw [List.getElem?_eq_none (by rw [z0x]; omega), List.getElem?_eq_none (by omega)]
  rw [e] at h; exact h
theorem Ins.srtd {key : Tm → Tm} {l : List Tm} {E : List Nat} (h : Ins (fun i j => ordT (key (l.getD i zT0)) (key (l.getD j zT0))) l.length l.length E) : Srtd key l (E.map fun i => l.getD i zT0) := by
  have el : (List.range l.length).map (fun i => l.getD i zT0) = l := by
    apply List.ext_getElem?
    intro i
    by_cases hi : i < l.length
    · rw [List.getElem?_map, List.getElem?_range hi, List.getElem?_eq_getElem hi]; simp [List.getD, List.getElem?_eq_getElem hi]
    · rw [List.getElem?_eq_none (by simp; omega), List.getElem?_eq_none (by omega)]
  constructor
  · have := h.srt
    unfold Srt at this ⊢
    rw [List.pairwise_map]; exact this
  · have hs := h.stb.map (cmp' := fun x y => ordT (key x) (key y)) (fun i => l.getD i zT0) (fun _ _ => rfl)
    rw [el] at hs
    refine ⟨hs.perm, fun t ht => hs.eq t ?_⟩
    obtain ⟨i, hi, rfl⟩ := List.mem_iff_getElem.1 ht
    exact ⟨i, hi, by simp [List.getD, List.getElem?_eq_getElem hi]⟩
end Go.Proofs.YtlllbkjiadcloaaDoor.hb
end

-- So10
section
namespace Go.Proofs.YtlllbkjiadcloaaDoor.hb
open Go Go.RowKit Go.Hb
variable {ok : Ok}
set_option maxRecDepth 10000
attribute [local irreducible] LX LG EL STG SOP SGO SGD SAL SRD SEF SEG SLK SCK ES
def SortO (once : Bool) (l m : List Tm) : Prop := if chkL l = 0 then ∃ s, Srtd (fun t => t) l s ∧ m = (if once = true then onceL s else s) else m = []
theorem SortO.one {once : Bool} {l m m' : List Tm} (h : SortO once l m) (h' : SortO once l m') : m = m' := by
  unfold SortO at h h'
  by_cases h0 : chkL l = 0
  · rw [if_pos h0] at h h'
    obtain ⟨s, h1, rfl⟩ := h
    obtain ⟨s', h2, rfl⟩ := h'
    rw [h1.one (fun t ht => (z1q.1 (z1v h0 t ht)).2) h2]
  · rw [if_neg h0] at h h'; rw [h, h']
theorem SortO.mem {once : Bool} {l m : List Tm} (h : SortO once l m) {t : Tm} (ht : t ∈ m) : chkL l = 0 ∧ t ∈ l := by
  unfold SortO at h
  by_cases h0 : chkL l = 0
  · rw [if_pos h0] at h
    obtain ⟨s, h1, rfl⟩ := h
    refine ⟨h0, h1.mem ?_⟩
    split at ht
    · exact zbi.subset ht
    · exact ht
  · rw [if_neg h0] at h; rw [h] at ht; cases ht
theorem SortO.len {once : Bool} {l m : List Tm} (h : SortO once l m) : m.length ≤ l.length := by
  unfold SortO at h
  by_cases h0 : chkL l = 0
  · rw [if_pos h0] at h
    obtain ⟨s, h1, rfl⟩ := h
    rw [← h1.len]
    split
    · exact zbi.length_le
    · exact Nat.le_refl _
  · rw [if_neg h0] at h; rw [h]; exact Nat.zero_le _
theorem zhx {H : Heap} {S : Nat → Prop} {b n : Nat} {D : Nat → El} (O : OwnD H 26 S n D) (hSb : ¬ S b) (hf : ∀ k, k < n → Fine (D k).t) (hw : H.wf) : Eqs 78 H b (fun e => ∃ k, k < n ∧ D k = e) (fun x y => ordT x.t y.t == 0) := by
  refine ⟨by kernel_rfl, fun x y H2 hx hy hk => ?_⟩
  obtain ⟨i, hi, rfl⟩ := hx
  obtain ⟨j, hj, rfl⟩ := hy
  have hne : ∀ m, S m → ¬ m = b := fun m hm e => hSb (e ▸ hm)
  have r1 : RepT H2 (D i).t (D i).six := RepF.rep (T := 26) (S := (D i).S) ⟨_, _, rfl, O.bd i hi, (O.fl i hi).heap (fun m hm hl => hk.keep m hl (hne m (O.sub i m hi hm))) hw⟩
  have r2 : RepT H2 (D j).t (D j).six := RepF.rep (T := 26) (S := (D j).S) ⟨_, _, rfl, O.bd j hj, (O.fl j hj).heap (fun m hm hl => hk.keep m hl (hne m (O.sub j m hj hm))) hw⟩
  exact zjp r1 r2 (hf i hi) (hf j hj) hk.wf
set_option maxHeartbeats 4000000 in
theorem zhy {l : List Tm} {a : Option Addr} {c : Nat} {cells : Nat → List Value} {H : Heap} {once : Bool} (rl : RepL H l a c cells) (hl : l.length ≤ most) (hw : H.wf) :
    EvF Tryd.prog okT 40 [.slice a l.length c, .bool once] H fun v H' => HX H H' ∧ ∃ m a' c', v = .tuple #[.slice a' m.length c', .int .i64 (chkL l)] ∧ FL H' 26 (Rg H.next H'.next) m a' c' ∧ SortO once l m := by
  refine EvF.enter rfl Tryd.func40 (by decide) rfl ?_
  repeat' (first | refine EvC.seq ?_ | refine EvC.scope ?_ | refine EvC.block ?_ | (refine EvC.skip ?_) | (refine EvC.exit ?_) | (refine EvC.ret ?_; try simp only [z01, z00]) | (refine EvC.reg ?_; simp (config := { maxSteps := 2000000 }) (disch := first | omega | rfl) only [sB, initTm, Nat.reduceEqDiff, reduceCtorEq, cl52]))
  refine (zbf rl hw).mono ?_
  rintro v H1 ⟨rfl, hx1⟩
  have nn1 := hx1.next
  by_cases h0 : chkL l = 0
  rotate_left
  · repeat' (first | refine EvC.seq ?_ | refine EvC.scope ?_ | refine EvC.block ?_ | (refine EvC.skip ?_) | (refine EvC.exit ?_) | (refine EvC.ret ?_; try simp only [z01, z00]) | (refine EvC.reg ?_; simp (config := { maxSteps := 2000000 }) (disch := first | omega | rfl) only [sB, Nat.reduceEqDiff, reduceCtorEq, z2x h0]) | (refine EvC.condT ?_ ?_; simp (config := { maxSteps := 2000000 }) (disch := first | omega | rfl) only [sB, Nat.reduceEqDiff, reduceCtorEq]; refine z03 ?_))
    exact z0p rfl (by simp only [sB, Nat.reduceEqDiff, reduceCtorEq] <;> rfl) (by simp only [sG, Nat.reduceEqDiff, reduceCtorEq] <;> rfl) ⟨hx1, [], none, 0, rfl, .nil _, by unfold SortO; rw [if_neg h0]⟩
  have hfine : ∀ t ∈ l, Fine t := fun t ht => (z1q.1 (z1v h0 t ht)).2
  repeat' (first | refine EvC.seq ?_ | refine EvC.scope ?_ | refine EvC.block ?_ | (refine EvC.skip ?_; try simp only [z02]) | (refine EvC.exit ?_) | (refine EvC.ret ?_; try simp only [z01, z00]) | (refine EvC.reg ?_; simp (config := { maxSteps := 2000000 }) (disch := first | omega | rfl) only [sB, Nat.reduceEqDiff, reduceCtorEq, cl75, z10 h0]) | (refine EvC.condT ?_ ?_; simp (config := { maxSteps := 2000000 }) (disch := first | omega | rfl) only [sB, Nat.reduceEqDiff, reduceCtorEq]; refine z03 ?_) | (refine EvC.condF ?_ ?_; simp (config := { maxSteps := 2000000 }) (disch := first | omega | rfl) only [sB, Nat.reduceEqDiff, reduceCtorEq]; refine z03 ?_))
  refine (zhu (rl.mono hx1 hw) hfine hl hx1.wf).mono ?_
  rintro v H2 ⟨cells', Si, ai, ci, rfl, g2, hlen, hfl, hx2⟩
  obtain ⟨hr, hO, hrow⟩ := OwnD.made hfl g2 hlen zT0
  have nn2 := hx2.next
  have lt2 := hx2.wf _ _ g2
  have hSb : ¬ Rg (H1.next + 1) H2.next H1.next := fun h => by have := h.1; omega
  generalize hD : (fun k => (⟨l.getD k zT0, ai k, ci k, Si k⟩ : El)) = D at hr hO hrow
  have hDt : ∀ k, k < l.length → (D k).t ∈ l := fun k hk => by
    rw [← hD]; simp only []
    rw [List.getD, List.getElem?_eq_getElem hk]; exact List.getElem_mem _
  have hG : ∀ k, k < l.length → (fun e => ∃ k, k < l.length ∧ D k = e) (D k) := fun k hk => ⟨k, hk, rfl⟩
  repeat' (first | refine EvC.seq ?_ | refine EvC.scope ?_ | refine EvC.block ?_ | (refine EvC.skip ?_) | (refine EvC.exit ?_) | (refine EvC.ret ?_; try simp only [z01, z00]) | (refine EvC.reg ?_; simp (config := { maxSteps := 2000000 }) (disch := first | omega | rfl) only [sB, Nat.reduceEqDiff, reduceCtorEq, cl76]))
  refine (z50 hl (zf9 hO hSb (fun k hk => hfine _ (hDt k hk)) hx2.wf) hr hG hx2.wf).mono ?_
  rintro v H3 ⟨D', hr3, hm, ho, hk3⟩
  have hO3 := (hO.mv hm).heap (H' := H3) (fun m hm hl => hk3.keep m hl fun e => hSb (e ▸ hm)) hx2.wf
  have hs : Srtd (fun t => t) l ((rowF l.length D').map El.t) := Srtd.rows hrow hG hm ho
  have hx12 := hx1.trans hx2
  have hx3 : HX H H3 := hx12.then hk3 fun n hn e => by omega
  have nn3 := hk3.next
  have hmax : l.length ≤ maxLen := Nat.le_trans hl (by simp [most, maxLen])
  have hD't : ∀ k, k < l.length → (D' k).t ∈ l := fun k hk => hs.mem (List.mem_map_of_mem (List.mem_map.2 ⟨k, List.mem_range.2 hk, rfl⟩))
  cases once with
  | false =>
    repeat' (first | refine EvC.seq ?_ | refine EvC.scope ?_ | refine EvC.block ?_ | (refine EvC.skip ?_; try simp only [z02]) | (refine EvC.exit ?_) | (refine EvC.ret ?_; try simp only [z01, z00]) | (refine EvC.reg ?_; simp (config := { maxSteps := 2000000 }) (disch := first | omega | rfl) only [sB, Nat.reduceEqDiff, reduceCtorEq]) | (refine EvC.condT ?_ ?_; simp (config := { maxSteps := 2000000 }) (disch := first | omega | rfl) only [sB, Nat.reduceEqDiff, reduceCtorEq]; refine z03 ?_) | (refine EvC.condF ?_ ?_; simp (config := { maxSteps := 2000000 }) (disch := first | omega | rfl) only [sB, Nat.reduceEqDiff, reduceCtorEq]; refine z03 ?_))
    have hll : ((rowF l.length D').map El.t).length = l.length := by rw [List.length_map, z0x]
    exact z0p rfl (by simp only [sB, Nat.reduceEqDiff, reduceCtorEq] <;> rfl) (by simp only [sB, Nat.reduceEqDiff, reduceCtorEq] <;> rfl) ⟨hx3, (rowF l.length D').map El.t, some ⟨H1.next, 0, none⟩, l.length, by rw [hll, h0], hO3.list hr3 (Nat.le_refl _) hmax ⟨nn1, by omega⟩ (fun m hm => ⟨by have := hm.1; omega, by have := hm.2; omega⟩) hSb, by unfold SortO; rw [if_pos h0]; exact ⟨_, hs, rfl⟩⟩
  | true =>
    repeat' (first | refine EvC.seq ?_ | refine EvC.scope ?_ | refine EvC.block ?_ | (refine EvC.skip ?_) | (refine EvC.exit ?_) | (refine EvC.ret ?_; try simp only [z01, z00]) | (refine EvC.reg ?_; simp (config := { maxSteps := 2000000 }) (disch := first | omega | rfl) only [sB, Nat.reduceEqDiff, reduceCtorEq, cl77]) | (refine EvC.condT ?_ ?_; simp (config := { maxSteps := 2000000 }) (disch := first | omega | rfl) only [sB, Nat.reduceEqDiff, reduceCtorEq]; refine z03 ?_))
    refine (zfc hl (Nat.le_refl _) (zhx hO3 hSb (fun k hk => hfine _ (hD't k hk)) hk3.wf) hr3 (fun k hk => ⟨k, hk, rfl⟩) hk3.wf).mono ?_
    rintro v H4 ⟨m, D4, rfl, hm4, hr4, hd4, hk4⟩
    have hO4 := (hO3.part (m := m) (D' := D4) (by rw [hd4]; exact zhv)).heap (H' := H4) (fun m hm hl => hk4.keep m hl fun e => hSb (e ▸ hm)) hk3.wf
    have nn4 := hk4.next
    repeat' (first | refine EvC.seq ?_ | refine EvC.scope ?_ | refine EvC.block ?_ | (refine EvC.skip ?_) | (refine EvC.exit ?_) | (refine EvC.ret ?_; try simp only [z01, z00]) | (refine EvC.reg ?_; simp (config := { maxSteps := 2000000 }) (disch := first | omega | rfl) only [sB, Nat.reduceEqDiff, reduceCtorEq]))
    have hll : ((rowF m D4).map El.t).length = m := by rw [List.length_map, z0x]
    refine z0p rfl (by simp only [sB, Nat.reduceEqDiff, reduceCtorEq] <;> rfl) (by simp only [sB, Nat.reduceEqDiff, reduceCtorEq] <;> rfl) ⟨hx3.then hk4 fun n hn e => by omega, (rowF m D4).map El.t, some ⟨H1.next, 0, none⟩, l.length, by rw [hll, h0], hO4.list hr4 hm4 hmax ⟨nn1, by omega⟩ (fun m hm => ⟨by have := hm.1; omega, by have := hm.2; omega⟩) hSb, ?_⟩
    unfold SortO
    rw [if_pos h0]
    exact ⟨_, hs, by rw [if_pos rfl, hd4, zfd]⟩
end Go.Proofs.YtlllbkjiadcloaaDoor.hb
end

-- So11
section
namespace Go.Hb
open Go Go.RowKit
theorem zhz {P : Program} {t T : TypeId} (hp : apOk P t T 6) (hs : slcOk P t T 6) {H : Heap} {base k c : Nat} {a : Option Addr} {L : List (List Value)} (h : RepO H T 6 base L (.slice a L.length c)) (hk : k ≤ L.length) (hm : L.length + 1 ≤ most) (hb : base ≤ H.next) (hw : H.wf) {x : List Value} (hx : x.length = 6) (hx1 : x.all one = true) {n0 n1 : Nat} (hn : n1 < n0) (hn' : 0 < n1) :
    (∀ G : Heap, dSl P t (.slice a L.length c) none (some (.int .i64 (k : Nat))) none G = some (.val (.slice a k c) G)) ∧
    ∃ w, veq w w = true ∧ dSl P t (.slice a L.length c) (some (.int .i64 (k : Nat))) none none ⟨H.next + n0, H.t⟩ = some (.val w ⟨H.next + n0, H.t⟩) ∧
    ∃ b2 c2 H2, dAp P #[t, t] (.slice (some ⟨H.next, 0, none⟩) 0 0) (.slice a k c) ((⟨H.next + n0, H.t⟩ : Heap).put H.next (some (.row [] T))) = some (.val (.slice (some ⟨b2, 0, none⟩) k c2) H2) ∧ HX H H2 ∧
    dSl P t (.slice a L.length c) (some (.int .i64 (k : Nat))) none none H2 = some (.val w H2) ∧
    ∃ b3 c3 H3, dAp P #[t, t] (.slice (some ⟨b2, 0, none⟩) k c2) (.slice (some ⟨H.next + n1, 0, none⟩) 1 1) (H2.put (H.next + n1) (some (.row x T))) = some (.val (.slice (some ⟨b3, 0, none⟩) (k + 1) c3) H3) ∧ HX H H3 ∧
    dSl P t (.slice a L.length c) (some (.int .i64 (k : Nat))) none none H3 = some (.val w H3) ∧
    ∃ b5 c5 H5, dAp P #[t, t] (.slice (some ⟨b3, 0, none⟩) (k + 1) c3) w H3 = some (.val (.slice (some ⟨b5, 0, none⟩) (L.length + 1) c5) H5) ∧ RepO H5 T 6 base (L.take k ++ [x] ++ L.drop k) (.slice (some ⟨b5, 0, none⟩) (L.length + 1) c5) ∧ HX H H5 := by
  have hlt : (L.take k).length = k := by rw [List.length_take]; omega
  have hld : (L.drop k).length = L.length - k := List.length_drop
  have hLc : L.length ≤ c := by
    rcases h with ⟨rfl, h2⟩ | ⟨b', c', h1, h2⟩
    · exact Nat.zero_le _
    · cases h2; exact h1.len
  have hLz : ∀ y ∈ L, y.length = 6 ∧ y.all one = true := fun y hy => by
    rcases h with ⟨rfl, -⟩ | ⟨b', c', h1, -⟩
    · cases hy
    · exact ⟨h1.sz y hy, h1.all y hy⟩
  have hbl : ∀ ad, a = some ad → ad.block < H.next := fun ad he => by
    rcases h with ⟨h1, h2⟩ | ⟨b', c', h1, h2⟩
    · subst h1; cases h2; cases he
    · cases h2; cases he; exact h1.hi
  obtain ⟨bo, hbo⟩ : ∃ bo, ∀ ad, a = some ad → ad.block = bo := by
    cases a with
    | none => exact ⟨0, fun ad he => by cases he⟩
    | some ad => exact ⟨ad.block, fun ad' he => by cases he; rfl⟩
  have hbo' : a ≠ none → bo < H.next := fun hn => by
    cases a with
    | none => exact absurd rfl hn
    | some ad => rw [← hbo ad rfl]; exact hbl ad rfl
  obtain ⟨-, hsrc⟩ := h.upto hs hk
  obtain ⟨w, e3, hS3⟩ := h.from hs hk hbo
  have hveq : veq w w = true := by
    rcases hS3 with ⟨-, a', c', rfl⟩ | ⟨o, c', rfl, -⟩
    · simp [veq]
    · simp [veq]
  have srcAt : ∀ {L' : List (List Value)} {v : Value} {G : Heap}, (a = none → L' = []) → Src H 6 L' v bo → HX H G → Src G 6 L' v bo := fun {L' v G} hn hS hG => by
    cases a with
    | none =>
      rcases hS with h1 | ⟨o, c', h1, h2, -⟩
      · exact .inl h1
      · rw [hn rfl] at h2; simp at h2
    | some ad => exact hS.heap (hG.keep bo (hbo' (by simp)))
  have hnil : a = none → L = [] := fun e => by
    rcases h with ⟨h1, -⟩ | ⟨b', c', -, h2⟩
    · exact h1
    · rw [e] at h2; cases h2
  have hx00 : HX H ⟨H.next + n0, H.t⟩ := (HX.refl hw).bump n0
  have hx0 : HX H ((⟨H.next + n0, H.t⟩ : Heap).put H.next (some (.row [] T))) := hx00.put (Nat.le_refl _) (by show H.next < H.next + n0; omega) _
  have hn0 : ((⟨H.next + n0, H.t⟩ : Heap).put H.next (some (.row [] T))).next = H.next + n0 := rfl
  have hE : OwnS ((⟨H.next + n0, H.t⟩ : Heap).put H.next (some (.row [] T))) T 6 base [] H.next 0 := ⟨hb, by rw [hn0]; omega, ⟨[], by rw [get_put, if_pos rfl], Nat.zero_le _, rfl⟩, Nat.le_refl _, Nat.zero_le _, (fun y hy => nomatch hy), (fun y hy => nomatch hy)⟩
  refine ⟨fun G => z80 hs (by omega), w, hveq, e3 _ (fun ad he => rfl), ?_⟩
  obtain ⟨H2, b2, c2, e1, o2, k2, q2⟩ := hE.app hp (srcAt (fun e => by rw [hnil e]; simp) (hsrc bo hbo) hx0) (fun y hy => (hLz y (List.mem_of_mem_take hy)).1) (fun y hy => (hLz y (List.mem_of_mem_take hy)).2) (by simp; omega) (by rw [hn0]; omega) hx0.wf
  have hx2 : HX H H2 := hx0.then k2 fun n hn e => by omega
  have hn2 : H.next + n0 ≤ H2.next := k2.next
  have l2 : ([] ++ L.take k).length = k := by rw [List.nil_append, hlt]
  rw [l2] at e1
  rw [List.nil_append] at o2
  have b2n : b2 = H.next ∨ H.next + n0 ≤ b2 := q2
  refine ⟨b2, c2, H2, e1, hx2, e3 _ (fun ad he => hx2.keep _ (hbl ad he)), ?_⟩
  have hx3 : HX H (H2.put (H.next + n1) (some (.row x T))) := hx2.put (by omega) (by omega) _
  have o3 : OwnS (H2.put (H.next + n1) (some (.row x T))) T 6 base (L.take k) b2 c2 := o2.heap (by rw [get_put, if_neg]; omega) (Nat.le_refl _)
  have hS2 : Src (H2.put (H.next + n1) (some (.row x T))) 6 [x] (.slice (some ⟨H.next + n1, 0, none⟩) 1 1) (H.next + n1) := by
    refine .inr ⟨0, 1, rfl, by simp, ?_⟩
    unfold Heap.load Heap.cells
    simp only [get_put, if_pos]
    simp [hx, List.take_of_length_le (Nat.le_of_eq hx)]
  obtain ⟨H3, b3, c3, e2, o4, k3, q3⟩ := o3.app hp hS2 (fun y hy => by rw [List.mem_singleton.1 hy]; exact hx) (fun y hy => by rw [List.mem_singleton.1 hy]; exact hx1) (by rw [hlt]; simp; omega) (by rw [z2m]; omega) hx3.wf
  have hx33 : HX H H3 := hx3.then k3 fun n hn e => by omega
  have l3 : (L.take k ++ [x]).length = k + 1 := by rw [List.length_append, hlt]; rfl
  rw [hlt, l3] at e2
  refine ⟨b3, c3, H3, e2, hx33, e3 _ (fun ad he => hx33.keep _ (hbl ad he)), ?_⟩
  have b3n : H.next ≤ b3 := by
    rcases q3 with q | q
    · omega
    · rw [z2m] at q; omega
  obtain ⟨H5, b5, c5, e4, o5, k5, -⟩ := o4.app hp (srcAt (fun e => by rw [hnil e]; simp) hS3 hx33) (fun y hy => (hLz y (List.mem_of_mem_drop hy)).1) (fun y hy => (hLz y (List.mem_of_mem_drop hy)).2) (by rw [l3, hld]; omega) (by have := hx33.next; omega) hx33.wf
  have l5 : (L.take k ++ [x] ++ L.drop k).length = L.length + 1 := by rw [List.length_append, l3, hld]; omega
  rw [l3, l5] at e4
  exact ⟨b5, c5, H5, e4, .inr ⟨b5, c5, o5, by rw [l5]⟩, hx33.then k5 fun n hn e => by omega⟩
end Go.Hb
namespace Go.Proofs.YtlllbkjiadcloaaDoor.hb
open Go Go.RowKit Go.Hb
variable {ok : Ok}
set_option maxRecDepth 10000
attribute [local irreducible] LX LG EL STG SOP SGO SGD SAL SRD SEF SEG SLK SCK ES
set_option maxHeartbeats 16000000 in
theorem z8c {l : List Tm} {key : Tm → Tm} {a ka : Option Addr} {c kc : Nat} {cells kcells : Nat → List Value} {H : Heap} (rl : RepL H l a c cells) (rk : RepL H (l.map key) ka kc kcells) (hf : ∀ t ∈ l, Fine (key t)) (hl : l.length ≤ most) (hw : H.wf) :
    EvF Tryd.prog okT 74 [.slice a l.length c, .slice ka l.length kc] H fun v H' => HX H H' ∧ ∃ E a' c', Ins (fun i j => ordT (key (l.getD i zT0)) (key (l.getD j zT0))) l.length l.length E ∧ v = .slice a' E.length c' ∧ RepO H' 26 6 H.next (E.map cells) v := by
  have hmx := rl.max
  have hms : most ≤ 1048576 := by simp [most]
  have hlk : (l.map key).length = l.length := List.length_map ..
  have ean : apOk Tryd.prog 24 26 6 := ap24
  have esl : slcOk Tryd.prog 24 26 6 := sl24
  have hgd : ∀ i, i < l.length → l.getD i zT0 ∈ l := fun i hi => by rw [List.getD, List.getElem?_eq_getElem hi]; exact List.getElem_mem _
  have hord : Ordr (fun k => k < l.length) (fun i j => ordT (key (l.getD i zT0)) (key (l.getD j zT0))) := ⟨fun x y _ _ => z3n _ _, fun x y z hx hy hz => (TT.terms _ _ _ _ (Nat.lt_succ_self _) (hf _ (hgd x hx)) (hf _ (hgd y hy)) (hf _ (hgd z hz))).1⟩
  have hkey : ∀ i, i < l.length → (l.map key)[i]? = some (key (l.getD i zT0)) := fun i hi => by rw [List.getElem?_map, List.getD, List.getElem?_eq_getElem hi]; rfl
  have kld : ∀ i, i < l.length → ∃ b o a1 c1, ka = some ⟨b, o, none⟩ ∧ H.load ⟨b, o + i * 6, none⟩ 6 = some (six (key (l.getD i zT0)) a1 c1) ∧ kcells i = six (key (l.getD i zT0)) a1 c1 ∧ RepT H (key (l.getD i zT0)) (six (key (l.getD i zT0)) a1 c1) := fun i hi => by
    obtain ⟨b, o, e, h1, h2⟩ := rk.at (hkey i hi)
    obtain ⟨a1, c1, -, e6, -⟩ := h2.six
    rw [e6] at h1 h2
    exact ⟨b, o, a1, c1, e, h1, e6, h2⟩
  have cld : ∀ i, i < l.length → ∃ b o a1 c1, a = some ⟨b, o, none⟩ ∧ H.load ⟨b, o + i * 6, none⟩ 6 = some (six (l.getD i zT0) a1 c1) ∧ cells i = six (l.getD i zT0) a1 c1 := fun i hi => by
    obtain ⟨b, o, e, h1, h2⟩ := rl.at (i := i) (t := l.getD i zT0) (by rw [List.getD, List.getElem?_eq_getElem hi]; rfl)
    obtain ⟨a1, c1, -, e6, -⟩ := h2.six
    rw [e6] at h1
    exact ⟨b, o, a1, c1, e, h1, e6⟩
  refine EvF.enter rfl Tryd.func74 (by decide) rfl ?_
  (repeat refine EvC.seq ?_); refine EvC.reg ?_; simp (config := { maxSteps := 2000000 }) (disch := first | omega | rfl) only [sA, initTm]
  (repeat refine EvC.seq ?_); refine EvC.reg ?_; simp (config := { maxSteps := 2000000 }) (disch := first | omega | rfl) only [sA]
  (repeat refine EvC.seq ?_); refine EvC.reg ?_; simp (config := { maxSteps := 2000000 }) (disch := first | omega | rfl) only [sA]
  (repeat refine EvC.seq ?_); refine EvC.reg ?_; simp (config := { maxSteps := 2000000 }) (disch := first | omega | rfl) only [sA]
  refine EvC.meet (fun st => ∃ tm H' E a1 c1, st = ⟨tm, [], H'⟩ ∧ tm.get 5 = some (.slice a1 E.length c1) ∧ Ins (fun i j => ordT (key (l.getD i zT0)) (key (l.getD j zT0))) l.length l.length E ∧ RepO H' 26 6 H.next (E.map cells) (.slice a1 E.length c1) ∧ HX H H') ?_ ?_
  rotate_left
  · rintro st ⟨tm, H', E, a1, c1, rfl, t5, hE, h1, hx⟩
    try simp (config := { maxSteps := 2000000 }) (disch := first | omega | rfl) only [z02]
    repeat' (first | refine EvC.seq ?_ | refine EvC.scope ?_ | refine EvC.block ?_ | (refine EvC.skip ?_) | (refine EvC.exit ?_) | (refine EvC.ret ?_; try simp only [z01, z00]) | (refine EvC.reg ?_; simp (config := { maxSteps := 2000000 }) (disch := first | omega | rfl) only [sB, t5]))
    exact z04 rfl (by simp only [sG, Nat.reduceEqDiff] <;> rfl) ⟨hx, E, a1, c1, hE, rfl, h1⟩
  refine EvC.block (EvC.loop (fun m st => ∃ tm H' i E a1 c1 a2 c2, st = ⟨tm, [], H'⟩ ∧ m = l.length - i ∧ i ≤ l.length ∧ tm.get 0 = some (.slice a l.length c) ∧ tm.get 1 = some (.slice ka l.length kc) ∧ tm.get 5 = some (.slice a1 i c1) ∧ tm.get 6 = some (.slice a2 i c2) ∧ tm.get 7 = some (.int .i64 (i : Nat)) ∧
    Ins (fun i j => ordT (key (l.getD i zT0)) (key (l.getD j zT0))) l.length i E ∧ RepO H' 26 6 H.next (E.map cells) (.slice a1 i c1) ∧ RepO H' 26 6 H.next (E.map kcells) (.slice a2 i c2) ∧ HX H H') ?_ l.length _ ?_)
  rotate_left
  · exact ⟨_, _, 0, [], none, 0, none, 0, rfl, rfl, Nat.zero_le _, (by simp only [sG, reduceCtorEq] <;> rfl), (by simp only [sG, Nat.reduceEqDiff, reduceCtorEq] <;> rfl), (by simp only [sG, Nat.reduceEqDiff, reduceCtorEq] <;> rfl), (by simp only [sG, Nat.reduceEqDiff, reduceCtorEq] <;> rfl), (by simp only [sB, Nat.reduceEqDiff, reduceCtorEq] <;> rfl), .zero, .inl ⟨rfl, rfl⟩, .inl ⟨rfl, rfl⟩, HX.refl hw⟩
  rintro m st ⟨tm, H', i, E, a1, c1, a2, c2, rfl, rfl, hi, t0, t1, t5, t6, t7, hE, h1, h2, hx⟩
  by_cases hlt : i < l.length
  rotate_left
  · obtain rfl : i = l.length := by omega
    repeat' (first | refine EvC.seq ?_ | refine EvC.scope ?_ | refine EvC.block ?_ | (refine EvC.skip ?_) | (refine EvC.exit ?_; try simp only [sB, reduceCtorEq]) | (refine EvC.ret ?_; try simp only [z01, z00]) | (refine EvC.reg ?_; simp (config := { maxSteps := 2000000 }) (disch := first | omega | rfl) only [sB, Nat.reduceEqDiff, reduceCtorEq, ln24, t0, t7, decn hlt]) | (refine EvC.condT ?_ ?_; simp (config := { maxSteps := 2000000 }) (disch := first | omega | rfl) only [sB, Nat.reduceEqDiff]; refine z03 ?_) | (refine EvC.condF ?_ ?_; simp (config := { maxSteps := 2000000 }) (disch := first | omega | rfl) only [sB, Nat.reduceEqDiff]; refine z03 ?_))
    exact ⟨_, _, E, a1, c1, rfl, by rw [hE.len]; exact (by simp only [sG, Nat.reduceEqDiff, t5] <;> rfl), hE, by rw [hE.len]; exact h1, hx⟩
  have hEl := hE.len
  (repeat refine EvC.seq ?_); refine EvC.reg ?_; simp (config := { maxSteps := 2000000 }) (disch := first | omega | rfl) only [sB, Nat.reduceEqDiff, reduceCtorEq, ln24, t0, t7, decl hlt]
  (repeat refine EvC.seq ?_); refine EvC.condT (by simp (config := { maxSteps := 2000000 }) (disch := first | omega | rfl) only [sB, Nat.reduceEqDiff]) ?_; (try refine EvC.skip ?_); (try simp only [z02, z0a])
  refine EvC.seq ?_
  refine EvC.block ?_
  (repeat refine EvC.seq ?_); refine EvC.reg ?_; simp (config := { maxSteps := 2000000 }) (disch := first | omega | rfl) only [sB, Nat.reduceEqDiff, ln24, t5]
  have hEx : ∀ j (hj : j < E.length), E[j] < l.length := fun j hj => Nat.lt_trans (hE.mem (List.getElem_mem hj)) hlt
  refine EvC.seq ?_
  refine EvC.meet (fun st => ∃ tm H' k, st = ⟨tm, [], H'⟩ ∧ k ≤ E.length ∧ (∀ j (hj : j < E.length), k ≤ j → ordT (key (l.getD i zT0)) (key (l.getD E[j] zT0)) < 0) ∧ (∀ (_ : 0 < k) (hk : k ≤ E.length), ¬ ordT (key (l.getD i zT0)) (key (l.getD (E[k - 1]'(by omega)) zT0)) < 0) ∧
    tm.get 0 = some (.slice a l.length c) ∧ tm.get 1 = some (.slice ka l.length kc) ∧ tm.get 5 = some (.slice a1 i c1) ∧ tm.get 6 = some (.slice a2 i c2) ∧ tm.get 7 = some (.int .i64 (i : Nat)) ∧ tm.get 8 = some (.int .i64 (k : Nat)) ∧ RepO H' 26 6 H.next (E.map cells) (.slice a1 i c1) ∧ RepO H' 26 6 H.next (E.map kcells) (.slice a2 i c2) ∧ HX H H') ?_ ?_
  · refine EvC.block (EvC.loop (fun m st => ∃ tm H' k, st = ⟨tm, [], H'⟩ ∧ m = k ∧ k ≤ E.length ∧ (∀ j (hj : j < E.length), k ≤ j → ordT (key (l.getD i zT0)) (key (l.getD E[j] zT0)) < 0) ∧
      tm.get 0 = some (.slice a l.length c) ∧ tm.get 1 = some (.slice ka l.length kc) ∧ tm.get 5 = some (.slice a1 i c1) ∧ tm.get 6 = some (.slice a2 i c2) ∧ tm.get 7 = some (.int .i64 (i : Nat)) ∧ tm.get 8 = some (.int .i64 (k : Nat)) ∧ RepO H' 26 6 H.next (E.map cells) (.slice a1 i c1) ∧ RepO H' 26 6 H.next (E.map kcells) (.slice a2 i c2) ∧ HX H H') ?_ i _ ?_)
    rotate_left
    · exact ⟨_, _, i, rfl, rfl, by omega, fun j hj hk => by omega, (by simp only [sG, reduceCtorEq, t0] <;> rfl), (by simp only [sG, Nat.reduceEqDiff, t1] <;> rfl), (by simp only [sG, Nat.reduceEqDiff, t5] <;> rfl), (by simp only [sG, Nat.reduceEqDiff, t6] <;> rfl), (by simp only [sG, Nat.reduceEqDiff, t7] <;> rfl), (by simp only [sG, Nat.reduceEqDiff] <;> rfl), h1, h2, hx⟩
    clear t0 t1 t5 t6 t7 h1 h2 hx
    rintro m st ⟨tm, H', k, rfl, rfl, hk, hgt, t0, t1, t5, t6, t7, t8, h1, h2, hx⟩
    by_cases hk0 : 0 < m
    rotate_left
    · repeat' (first | refine EvC.seq ?_ | refine EvC.scope ?_ | refine EvC.block ?_ | (refine EvC.skip ?_) | (refine EvC.exit ?_; try simp only [sB, reduceCtorEq]) | (refine EvC.ret ?_; try simp only [z01, z00]) | (refine EvC.drw (id := 7) [([(0, 0), (1, 0), (2, 0), (3, 0), (4, 0), (5, 0), (6, 0), (7, 0), (8, 0), (9, 0), (10, 0), (11, 0)], some 12), ([(13, 1), (14, 1)], none)] ?_ ?_; kernel_rfl; simp (config := { maxSteps := 2000000 }) (disch := first | omega | rfl) only [sD, sB, Nat.reduceEqDiff, Nat.reduceAdd, t8, (decide_eq_false (by omega) : decide ((m : Int) > 0) = false), Bool.false_eq_true, isAlloc, isRead]) | (refine EvC.condT ?_ ?_; simp (config := { maxSteps := 2000000 }) (disch := first | omega | rfl) only [sB, Nat.reduceEqDiff]; refine z03 ?_) | (refine EvC.condF ?_ ?_; simp (config := { maxSteps := 2000000 }) (disch := first | omega | rfl) only [sB, Nat.reduceEqDiff]; refine z03 ?_))
      exact ⟨_, _, m, rfl, hk, hgt, fun h => absurd h hk0, (by simp only [sG, reduceCtorEq, t0] <;> rfl), (by simp only [sG, Nat.reduceEqDiff, t1] <;> rfl), (by simp only [sG, Nat.reduceEqDiff, t5] <;> rfl), (by simp only [sG, Nat.reduceEqDiff, t6] <;> rfl), (by simp only [sG, Nat.reduceEqDiff, t7] <;> rfl), (by simp only [sG, Nat.reduceEqDiff, t8] <;> rfl), h1.keep ((HX.refl hx.wf).bump _), h2.keep ((HX.refl hx.wf).bump _), hx.bump _⟩
    have hms1 : m - 1 < E.length := by omega
    have hkl : E[m - 1] < l.length := hEx _ hms1
    obtain ⟨b1, o1, x1, y1, rfl, ld1, -, r1⟩ := kld i hlt
    obtain ⟨b2, o2, x2, y2, e2, ld2, e2', r2⟩ := kld E[m - 1] hkl
    have g2 : (E.map kcells)[m - 1]? = some (six (key (l.getD E[m - 1] zT0)) x2 y2) := by rw [List.getElem?_map, List.getElem?_eq_getElem hms1, ← e2']; rfl
    obtain ⟨bb, cb, ho, eo⟩ := h2.own (by intro e; rw [e] at g2; simp at g2)
    obtain ⟨rfl, rfl⟩ : a2 = some ⟨bb, 0, none⟩ ∧ c2 = cb := by injection eo with q1 q2 q3; exact ⟨q1, q3⟩
    have ld2' := ho.load g2
    have ld1' := hx.load hw ld1
    have hmi : m - 1 < i := by omega
    have hb := hx.bump 15
    repeat' (first | refine EvC.seq ?_ | refine EvC.scope ?_ | refine EvC.block ?_ | (refine EvC.skip ?_) | (refine EvC.exit ?_) | (refine EvC.ret ?_; try simp only [z01, z00]) | (refine EvC.drw (id := 7) [([(0, 0), (1, 0), (2, 0), (3, 0), (4, 0), (5, 0), (6, 0), (7, 0), (8, 0), (9, 0), (10, 0), (11, 0)], some 12), ([(13, 1), (14, 1)], none)] ?_ ?_; kernel_rfl; simp (config := { maxSteps := 2000000 }) (disch := first | omega | rfl) only [sD, sB, Nat.reduceEqDiff, Nat.reduceAdd, reduceCtorEq, ia24, ld26, cl19, t1, t6, t7, t8, (decide_eq_true (by omega) : decide ((m : Int) > 0) = true), zb4 (i := m) hk0 (by omega), ld1', ld2', isAlloc, isRead, reduceCtorEq]))
    have q1 := hb.wf
    refine (zbe (Nat.lt_succ_self _) (r1.mono hb hw) (r2.mono hb hw) (hf _ (hgd _ hlt)) (hf _ (hgd _ hkl)) hb.wf).mono ?_
    rintro v H3 ⟨rfl, hx3⟩
    have hb' := ((HX.refl hx.wf).bump 15).trans hx3
    by_cases hc : ordT (key (l.getD i zT0)) (key (l.getD E[m - 1] zT0)) < 0
    · repeat' (first | refine EvC.seq ?_ | refine EvC.scope ?_ | refine EvC.block ?_ | (refine EvC.skip ?_; try simp only [z02]) | (refine EvC.exit ?_) | (refine EvC.ret ?_; try simp only [z01, z00]) | (refine EvC.reg ?_; simp (config := { maxSteps := 2000000 }) (disch := first | omega | rfl) only [sB, Nat.reduceEqDiff, t8, zb4 (i := m) hk0 (by omega)]) | (refine z0n ?_; simp (config := { maxSteps := 2000000 }) (disch := first | omega | rfl) only [sD, sB, Nat.reduceEqDiff, decide_eq_true hc, isAlloc, isRead]) | (refine EvC.condT ?_ ?_; simp (config := { maxSteps := 2000000 }) (disch := first | omega | rfl) only [sB, Nat.reduceEqDiff]; refine z03 ?_))
      exact ⟨m - 1, by omega, _, _, m - 1, rfl, rfl, by omega, fun j hj hj2 => by
        by_cases e1 : j = m - 1
        · subst e1; exact hc
        · exact hgt j hj (by omega), (by simp only [sG, reduceCtorEq, t0] <;> rfl), (by simp only [sG, Nat.reduceEqDiff, t1] <;> rfl), (by simp only [sG, Nat.reduceEqDiff, t5] <;> rfl), (by simp only [sG, Nat.reduceEqDiff, t6] <;> rfl), (by simp only [sG, Nat.reduceEqDiff, t7] <;> rfl), (by simp only [sG, Nat.reduceEqDiff] <;> rfl), h1.keep hb', h2.keep hb', hb.trans hx3⟩
    · repeat' (first | refine EvC.seq ?_ | refine EvC.scope ?_ | refine EvC.block ?_ | (refine EvC.skip ?_) | (refine EvC.exit ?_; try simp only [sB, reduceCtorEq]) | (refine EvC.ret ?_; try simp only [z01, z00]) | (refine z0n ?_; simp (config := { maxSteps := 2000000 }) (disch := first | omega | rfl) only [sD, sB, Nat.reduceEqDiff, decide_eq_false hc, isAlloc, isRead]) | (refine EvC.condT ?_ ?_; simp (config := { maxSteps := 2000000 }) (disch := first | omega | rfl) only [sB, Nat.reduceEqDiff]; refine z03 ?_) | (refine EvC.condF ?_ ?_; simp (config := { maxSteps := 2000000 }) (disch := first | omega | rfl) only [sB, Nat.reduceEqDiff]; refine z03 ?_))
      exact ⟨_, _, m, rfl, hk, hgt, fun _ _ => hc, (by simp only [sG, reduceCtorEq, t0] <;> rfl), (by simp only [sG, Nat.reduceEqDiff, t1] <;> rfl), (by simp only [sG, Nat.reduceEqDiff, t5] <;> rfl), (by simp only [sG, Nat.reduceEqDiff, t6] <;> rfl), (by simp only [sG, Nat.reduceEqDiff, t7] <;> rfl), (by simp only [sG, Nat.reduceEqDiff, t8] <;> rfl), h1.keep hb', h2.keep hb', hb.trans hx3⟩
  clear t0 t1 t5 t6 t7 h1 h2 hx
  rintro st ⟨tm, H', k, rfl, hk, hgt, hle, t0, t1, t5, t6, t7, t8, h1, h2, hx⟩
  obtain ⟨b1, o1, x1, y1, rfl, ld1, e1⟩ := cld i hlt
  have lL1 : (E.map cells).length = i := by rw [List.length_map, hEl]
  have lL2 : (E.map kcells).length = i := by rw [List.length_map, hEl]
  obtain ⟨ehi, w4, hv4, f0, p2, q2, H2, f1, j2, f2, p3, q3, H3, f3, j3, f4, p5, q5, H5, f5, k1, j5⟩ := zhz ean esl (k := k) (n0 := 16) (n1 := 9) (x := six (l.getD i zT0) x1 y1) (by rw [lL1]; exact h1) (by omega) (by omega) hx.next hx.wf rfl rfl (by omega) (by omega)
  rw [lL1] at ehi f0 f2 f4 f5 k1
  have lda := hx.load hw ld1
  have ldb := (hx.trans j2).load hw ld1
  try simp (config := { maxSteps := 2000000 }) (disch := first | omega | rfl) only [z02]
  (repeat refine EvC.seq ?_); refine EvC.drw [([(0, 0), (1, 0), (2, 0), (3, 0)], some 4), ([(5, 0), (6, 0), (7, 0), (8, 0), (9, 0)], some 10), ([(11, 0), (12, 0), (13, 0)], some 14), ([(15, 3)], none)] (by kernel_rfl) ?_; simp (config := { maxSteps := 2000000 }) (disch := first | omega | rfl) only [sV, sD, sB, Nat.reduceEqDiff, Nat.reduceAdd, Value.cells, one, reduceCtorEq, layC, ia24, ld26, zko, zai, isAlloc, isRead, dalloc, reduceCtorEq, Bool.and_true, t0, t5, t7, t8, ehi, f0, f1, f2, f3, f4, f5, lda, ldb]
  refine ⟨hv4, ?_⟩
  have hx5 := hx.trans j5
  obtain ⟨b1', o1', x1', y1', rfl, ld1', e1', -⟩ := kld i hlt
  have h2' := h2.keep j5
  obtain ⟨ehi', w4', hv4', g0, p2', q2', H2', g1, j2', g2, p3', q3', H3', g3, j3', g4, p5', q5', H5', g5, k1', j5'⟩ := zhz ean esl (k := k) (n0 := 16) (n1 := 9) (x := six (key (l.getD i zT0)) x1' y1') (by rw [lL2]; exact h2') (by omega) (by omega) hx5.next hx5.wf rfl rfl (by omega) (by omega)
  rw [lL2] at ehi' g0 g2 g4 g5 k1'
  have lda' := hx5.load hw ld1'
  have ldb' := (hx5.trans j2').load hw ld1'
  (repeat refine EvC.seq ?_); refine EvC.drw [([(0, 0), (1, 0), (2, 0), (3, 0)], some 4), ([(5, 0), (6, 0), (7, 0), (8, 0), (9, 0)], some 10), ([(11, 0), (12, 0), (13, 0)], some 14), ([(15, 3)], none)] (by kernel_rfl) ?_; simp (config := { maxSteps := 2000000 }) (disch := first | omega | rfl) only [sV, sD, sB, Nat.reduceEqDiff, Nat.reduceAdd, Value.cells, one, reduceCtorEq, layC, ia24, ld26, zko, zai, isAlloc, isRead, dalloc, reduceCtorEq, Bool.and_true, t1, t6, t7, t8, ehi', g0, g1, g2, g3, g4, g5, lda', ldb']
  refine ⟨hv4', ?_⟩
  try simp (config := { maxSteps := 2000000 }) (disch := first | omega | rfl) only []
  repeat' (first | refine EvC.seq ?_ | refine EvC.scope ?_ | refine EvC.block ?_ | (refine EvC.skip ?_) | (refine EvC.exit ?_) | (refine EvC.ret ?_; try simp only [z01, z00]) | (refine EvC.reg ?_; simp (config := { maxSteps := 2000000 }) (disch := first | omega | rfl) only [sB, Nat.reduceEqDiff, t7, z5f (i := i) (by omega)]))
  have hst := hE.step hord hlt hk hgt (fun h => hle h hk)
  have ec : E.map cells = E.map cells := rfl
  refine ⟨l.length - (i + 1), by omega, _, _, i + 1, E.take k ++ [i] ++ E.drop k, _, _, _, _, rfl, rfl, by omega, (by simp only [sG, reduceCtorEq, t0] <;> rfl), (by simp only [sG, Nat.reduceEqDiff, t1] <;> rfl), (by simp only [sB, Nat.reduceEqDiff] <;> rfl), (by simp only [sB, Nat.reduceEqDiff] <;> rfl), (by simp only [sG, Nat.reduceEqDiff] <;> rfl), hst, ?_, ?_, hx5.trans j5'⟩
  · rw [List.map_append, List.map_append, List.map_take, List.map_drop, List.map_singleton, e1]
    exact k1.keep j5'
  · rw [List.map_append, List.map_append, List.map_take, List.map_drop, List.map_singleton, e1']
    exact k1'
end Go.Proofs.YtlllbkjiadcloaaDoor.hb
end

-- V2
section
namespace Go.Hb
open Go Go.RowKit
theorem six_ones {t : Tm} {a : Option Addr} {c : Nat} : (six t a c).all one = true := rfl
theorem z3a {cells : List Value} : ∀ n, n * 6 ≤ cells.length → (∀ i, i < n → ((cells.drop (i * 6)).take 6).all one = true) → (cells.take (n * 6)).all one = true
  | 0, _, _ => by simp
  | n + 1, h, hc => by
    rw [Nat.succ_mul, List.take_add, List.all_append, z3a n (by omega) fun i hi => hc i (by omega), hc n (by omega)]; rfl
theorem zfe {cells : List Value} {i n : Nat} (h : i < n) (vs : List Value) (hn : n * 6 ≤ cells.length) : ((cells.take (n * 6) ++ vs).drop (i * 6)).take 6 = (cells.drop (i * 6)).take 6 := by
  have h1 : (cells.take (n * 6)).length = n * 6 := by rw [List.length_take]; omega
  rw [List.drop_append_of_le_length (by omega), List.take_append_of_le_length (by rw [List.length_drop]; omega), List.drop_take, List.take_take]
  congr 1; omega
theorem FL.push {P : Program} {T t : TypeId} (hp : apOk P t T 6) {H : Heap} {S N S2 : Nat → Prop} {l : List Tm} {u : Tm} {a a' : Option Addr} {c c' c1 : Nat} {ad : Addr} (h : FL H T S l a c) (hw : H.wf)
    (hl : H.load ad (1 * 6) = some (six u a' c')) (hu : FL H T N u.args a' c') (hb : Bd u) (hN : ∀ n, N n → ¬ S n) (hS : ∀ n, S n → n < H.next) (hNl : ∀ n, N n → n < H.next) (hm : l.length + 1 ≤ most) (h2 : ∀ n, S n ∨ N n ∨ n = H.next → S2 n) :
    ∃ H2, dAp P #[t, t] (.slice a l.length c) (.slice (some ad) 1 c1) H = some (.val (.slice (some ⟨H.next, 0, none⟩) (l.length + 1) (l.length + 1)) H2) ∧ FL H2 T S2 (l ++ [u]) (some ⟨H.next, 0, none⟩) (l.length + 1) ∧ HK S H H2 ∧ H2.next = H.next + 1 := by
  have hmax : l.length + 1 ≤ maxLen := Nat.le_trans hm (by simp [most, maxLen])
  cases h with
  | nil =>
    have hx := (HX.refl hw).new (some (.row (six u a' c') T))
    refine ⟨_, z8v hp (by omega) hm hl six_ones, ?_, hx.hk _, rfl⟩
    refine .row S2 [u] H.next 1 (six u a' c') (fun _ => N) (fun _ => a') (fun _ => c') (Nat.le_refl _) hmax z0q (Nat.le_refl _) ?_ ?_ (h2 _ (.inr (.inr rfl))) ?_ ?_ ?_ ?_
    · intro i v hv
      match i, hv with
      | 0, hv => cases hv; rfl
    · intro i v hv
      match i, hv with
      | 0, hv => cases hv; exact hb
    · intro i _ hn; have := hNl _ hn; omega
    · intro i n _ hn; exact h2 n (.inr (.inl hn))
    · intro i j n hi hj _ _
      simp at hi hj; omega
    · intro i v hv
      match i, hv with
      | 0, hv => cases hv; exact hu.keep hx hw
  | row _ _ b c cells Si ai ci h1 h2' h3 h4 h5 h6 h7 h8 h9 h10 h11 =>
    have hcells : (cells.take (l.length * 6)).all one = true := z3a _ h4 fun i hi => by rw [h5 i l[i] (List.getElem?_eq_getElem hi)]; exact six_ones
    have hbn : b < H.next := hw _ _ h3
    have hk : HK S H ((H.put b none).new (some (.row (cells.take (l.length * 6) ++ six u a' c') T))) := ((HK.refl hw).put (.inl h7) hbn none).new _
    have hkeep : ∀ n, n < H.next → n ≠ b → ((H.put b none).new (some (.row (cells.take (l.length * 6) ++ six u a' c') T))).get n = H.get n := fun n hn hne => by
      rw [z26 (by rw [z2m]; exact hn), z3e hne]
    refine ⟨_, z6p hp (by omega) hm hl six_ones h3 h4 hcells, ?_, hk, rfl⟩
    have hfs : FLs H T (fun n => ∃ i, i < l.length ∧ Si i n) l cells Si ai ci := ⟨h5, h6, fun i n hi hn => ⟨i, hi, hn⟩, h10, h11⟩
    have hSb : ¬ ∃ i, i < l.length ∧ Si i b := fun ⟨i, hi, hn⟩ => h8 i hi hn
    have hsub : ∀ n, (∃ i, i < l.length ∧ Si i n) → S n := fun n ⟨i, hi, hn⟩ => h9 i n hi hn
    have hlen : (cells.take (l.length * 6)).length = l.length * 6 := by rw [List.length_take]; omega
    have hs := hfs.snoc (H' := (H.put b none).new (some (.row (cells.take (l.length * 6) ++ six u a' c') T))) (S' := fun n => (∃ i, i < l.length ∧ Si i n) ∨ N n) (N := N) (cells' := cells.take (l.length * 6) ++ six u a' c') (t := u) (a := a') (c := c')
      (fun n hn hl => hkeep n hl (fun e => hSb (e ▸ hn))) hw (hu.heap (fun n hn hl => hkeep n hl fun e => hN n hn (e ▸ h7)) hw) hb (fun n hn hq => hN n hn (hsub n hq)) (fun n hn => .inl hn) (fun n hn => .inr hn)
      (fun i hi => zfe hi _ h4) (by
        rw [List.drop_append_of_le_length (by omega), List.drop_eq_nil_of_le (by omega)]; rfl)
    refine hs.row (S' := S2) (by simp) hmax z0q (by simp; omega) (h2 _ (.inr (.inr rfl))) (fun hq => ?_) (fun n hn => ?_)
    · rcases hq with hq | hq
      · have := hS _ (hsub _ hq); simp at this
      · have := hNl _ hq; simp at this
    · rcases hn with hn | hn
      · exact h2 n (.inl (hsub n hn))
      · exact h2 n (.inr (.inl hn))
end Go.Hb
namespace Go.Proofs.YtlllbkjiadcloaaDoor.hb
open Go Go.RowKit Go.Hb
variable {ok : Ok}
set_option maxRecDepth 10000
attribute [local irreducible] LX LG EL STG SOP SGO SGD SAL SRD SEF SEG SLK SCK ES
inductive Few (n : Nat) : Tm → Prop
  | mk {t : Tm} : t.args.length ≤ n → (∀ u ∈ t.args, Few n u) → Few n t
theorem Few.len {n : Nat} {t : Tm} (h : Few n t) : t.args.length ≤ n := by cases h; assumption
theorem Few.args {n : Nat} {t : Tm} (h : Few n t) : ∀ u ∈ t.args, Few n u := by cases h; assumption
theorem Few.up {n m : Nat} {t : Tm} (f : Few n t) (h : n ≤ m) : Few m t := by
  induction f with
  | mk h1 _ ih => exact .mk (Nat.le_trans h1 h) ih
theorem Fine.few : ∀ (m : Nat) {t : Tm}, SizeOf.sizeOf t < m → Fine t → Few 64 t
  | 0, _, h, _ => by omega
  | m + 1, t, h, f => .mk (ze1 f) fun u hu => Fine.few m (by have := z4y hu; omega) (f.args u hu)
end Go.Proofs.YtlllbkjiadcloaaDoor.hb
end

-- V3
section
namespace Go.Hb
open Go Go.RowKit
theorem FL.inv {H : Heap} {T : TypeId} {S : Nat → Prop} {l : List Tm} {a : Option Addr} {c : Nat} (h : FL H T S l a c) : (l = [] ∧ a = none ∧ c = 0) ∨ ∃ b cells Si ai ci, a = some ⟨b, 0, none⟩ ∧ l.length ≤ c ∧ c ≤ maxLen ∧
    H.get b = some (.row cells T) ∧ l.length * 6 ≤ cells.length ∧ S b ∧ (∀ i, i < l.length → ¬ Si i b) ∧ FLs H T S l cells Si ai ci := by
  cases h with
  | nil => exact .inl ⟨rfl, rfl, rfl⟩
  | row _ _ b c cells Si ai ci h1 h2 h3 h4 h5 h6 h7 h8 h9 h10 h11 => exact .inr ⟨b, cells, Si, ai, ci, rfl, h1, h2, h3, h4, h7, h8, ⟨h5, h6, h9, h10, h11⟩⟩
end Go.Hb
namespace Go.Proofs.YtlllbkjiadcloaaDoor.hb
open Go Go.RowKit Go.Hb
variable {ok : Ok}
set_option maxRecDepth 10000
attribute [local irreducible] LX LG EL STG SOP SGO SGD SAL SRD SEF SEG SLK SCK ES
abbrev mark6 (k : Int) (s : ByteArray) : List Value := [.int .i64 k, .string s, .string ByteArray.empty, .int .u64 0, .int .i64 0, .slice none 0 0]
set_option maxHeartbeats 4000000 in
theorem zi0 {s : ByteArray} {m : Nat} : ∀ {t : Tm} {cs : List Value} {S : Nat → Prop} {H : Heap}, SizeOf.sizeOf t < m → RepF H 26 S t cs → Few 1000000 t → (∀ n, S n → n < H.next) → H.wf →
    EvF Tryd.prog okT 23 [.agg ⟨cs⟩, .string s] H fun _ H' => HK S H H' := by
  induction m with
  | zero => intro t cs S H h; omega
  | succ m ih =>
  intro t cs S H hsz r hfew hS hw
  obtain ⟨a, c, rfl, hbd, hf⟩ := r
  have hlen := hfew.len
  refine EvF.enter rfl Tryd.func23 (by decide) rfl ?_
  (repeat refine EvC.seq ?_); refine EvC.reg ?_; simp (config := { maxSteps := 2000000 }) (disch := first | omega | rfl) only [sB, initTm, dBox, Value.cells, one, reduceCtorEq]
  obtain ⟨H2, e2, hx2, gp, hn2, hw2⟩ := new1 hw (.row (six t a c) 26)
  simp only [e2]
  clear e2
  (repeat refine EvC.seq ?_); refine EvC.reg ?_; simp (config := { maxSteps := 2000000 }) (disch := first | omega | rfl) only [sA]
  have ean : apOk Tryd.prog 24 26 6 := ap24
  rcases hf.inv with ⟨he, rfl, rfl⟩ | ⟨b, cells, Si, ai, ci, rfl, hlc, hcm, gb, hcl, hSb, hnb, hfs⟩
  · have he0 : t.args.length = 0 := by rw [he]; rfl
    have q1 := row6 gp
    refine EvC.block (EvC.loop1 ?_)
    have hd : ¬ (0 : Nat) < t.args.length := by omega
    have hd' : decide ((0 : Int) < (t.args.length : Int)) = false := decide_eq_false (by omega)
    repeat' (first | refine EvC.seq ?_ | refine EvC.scope ?_ | refine EvC.block ?_ | (refine EvC.skip ?_) | (refine EvC.exit ?_; try simp only [sB]) | (refine EvC.ret ?_; try simp only [z01, z00]) | (refine EvC.reg ?_; simp (config := { maxSteps := 2000000 }) (disch := first | omega | rfl) only [sB, Nat.reduceEqDiff, Nat.reduceAdd, Value.cells, one, reduceCtorEq, Nat.reduceLeDiff, layC, z0r, ld24, ln24, bd26, zkn, q1, hd']) | (refine EvC.condT ?_ ?_; simp (config := { maxSteps := 2000000 }) (disch := first | omega | rfl) only [sB, Nat.reduceEqDiff, reduceCtorEq]; refine z03 ?_) | (refine EvC.condF ?_ ?_; simp (config := { maxSteps := 2000000 }) (disch := first | omega | rfl) only [sB, Nat.reduceEqDiff, reduceCtorEq]; refine z03 ?_))
    obtain ⟨H6, e6, hx6, g6, hn6, hw6⟩ := new1 hw2 (.row (mark6 0 s ++ mark6 0 s) 26)
    have e6' := e6
    simp only [mark6, List.cons_append, List.nil_append] at e6'
    simp only [e6']
    have l6 : H6.load ⟨H2.next, 0, none⟩ (2 * 6) = some (mark6 0 s ++ mark6 0 s) := by unfold Heap.load Heap.cells; simp only [g6]; rfl
    have e7 : dAp Tryd.prog #[24, 24] (.slice none t.args.length 0) (.slice (some ⟨H2.next, 0, none⟩) 2 2) H6 = some (.val (.slice (some ⟨H6.next, 0, none⟩) 2 2) (H6.new (some (.row (mark6 0 s ++ mark6 0 s) 26)))) := by
      rw [he0]; exact z8v ean (by omega) (by simp [most]) l6 rfl
    obtain ⟨H7, e8, hx7, g7, hn7, hw7⟩ := new1 hw6 (.row (mark6 0 s ++ mark6 0 s) 26)
    have gp7 := hx7.get hw6 (hx6.get hw2 gp)
    rw [e8] at e7
    repeat' (first | refine EvC.seq ?_ | refine EvC.scope ?_ | refine EvC.block ?_ | (refine EvC.skip ?_) | (refine EvC.exit ?_) | (refine EvC.ret ?_; try simp only [z01, z00]) | (refine z0z ?_; simp (config := { maxSteps := 2000000 }) (disch := first | omega | rfl) only [sB, Nat.reduceEqDiff, Nat.reduceAdd, one, reduceCtorEq, z0r, st24, e7, gp7]))
    exact z0v rfl (((hx2.trans hx6).trans hx7).pt (Nat.le_refl _) gp7 _ |>.hk S)
  · refine EvC.meet (fun st => ∃ tm H' cells', st = ⟨tm, [], H'⟩ ∧ tm.get 1 = some (.string s) ∧ tm.get 2 = some (.pointer (some ⟨H.next, 0, none⟩)) ∧ H'.get H.next = some (.row (six t (some ⟨b, 0, none⟩) c) 26) ∧
      H'.get b = some (.row cells' 26) ∧ t.args.length * 6 ≤ cells'.length ∧ (∀ j, j < t.args.length → ((cells'.drop (j * 6)).take 6).all one = true) ∧ HK S H H') ?_ ?_
    · refine EvC.block (EvC.loop (fun k st => ∃ tm H' i cells', st = ⟨tm, [], H'⟩ ∧ k = t.args.length - i ∧ i ≤ t.args.length ∧ tm.get 1 = some (.string s) ∧ tm.get 2 = some (.pointer (some ⟨H.next, 0, none⟩)) ∧ tm.get 4 = some (.int .i64 (i : Nat)) ∧
        H'.get H.next = some (.row (six t (some ⟨b, 0, none⟩) c) 26) ∧ H'.get b = some (.row cells' 26) ∧ t.args.length * 6 ≤ cells'.length ∧ (∀ j, j < t.args.length → ((cells'.drop (j * 6)).take 6).all one = true) ∧
        (∀ j, i ≤ j → j < t.args.length → (cells'.drop (j * 6)).take 6 = (cells.drop (j * 6)).take 6) ∧ (∀ j n, i ≤ j → j < t.args.length → Si j n → H'.get n = H.get n) ∧ HK S H H') ?_ t.args.length _ ?_)
      · rintro k st ⟨tm, H', i, cells', rfl, rfl, hi, t1, t2, t4, gp', gb', hcl', hone, hsame, hkeep, hk'⟩
        have q1 := row6 gp'
        have hmx : t.args.length ≤ 9223372036854775807 := by omega
        by_cases hlt : i < t.args.length
        · have hu := List.getElem?_eq_getElem hlt
          have hld : H'.load ⟨b, i * 6, none⟩ 6 = some (six t.args[i] (ai i) (ci i)) := by
            unfold Heap.load Heap.cells
            simp only [gb', hsame i (Nat.le_refl _) hlt, hfs.el i _ hu]
            rfl
          have hle : i * 6 + 6 ≤ cells'.length := by have := mul6 hlt; omega
          repeat' (first | refine EvC.seq ?_ | refine EvC.scope ?_ | refine EvC.block ?_ | (refine EvC.skip ?_; try simp only [z02]) | (refine EvC.exit ?_) | (refine EvC.ret ?_; try simp only [z01, z00]) | (refine EvC.reg ?_; simp (config := { maxSteps := 2000000 }) (disch := first | omega | rfl) only [sB, Nat.reduceEqDiff, z0r, ld24, ln24, ia24, ld26, cl23, t1, t2, t4, q1, decl hlt, hld]) | (refine EvC.condT ?_ ?_; simp (config := { maxSteps := 2000000 }) (disch := first | omega | rfl) only [sB, Nat.reduceEqDiff]; refine z03 ?_))
          have hs := z1h hu
          have hfi := (hfs.fl i _ hu).heap (H' := H') (fun n hn _ => hkeep i n (Nat.le_refl _) hlt hn) hw
          have hSn : ∀ n, S n → n < H'.next := fun n hn => Nat.lt_of_lt_of_le (hS n hn) hk'.next
          refine (ih (t := t.args[i]) (by omega) ⟨ai i, ci i, rfl, hfs.bd i _ hu, hfi⟩ (hfew.args _ (List.getElem_mem _)) (fun n hn => hSn n (hfs.sub i n hlt hn)) hk'.wf).mono ?_
          rintro v H5 hk5
          have gp5 := hk5.get hk'.wf gp' (fun hq => by have := hS _ (hfs.sub i _ hlt hq); omega)
          have gb5 := hk5.get hk'.wf gb' (fun hq => hnb i hlt hq)
          have q2 := row6 gp5
          repeat' (first | refine EvC.seq ?_ | refine EvC.scope ?_ | refine EvC.block ?_ | (refine EvC.skip ?_) | (refine EvC.exit ?_) | (refine EvC.ret ?_; try simp only [z01, z00]) | (refine EvC.reg ?_; simp (config := { maxSteps := 2000000 }) (disch := first | omega | rfl) only [sB, Nat.reduceEqDiff, Nat.reduceAdd, Value.cells, one, Nat.reduceLeDiff, layC, z0r, ld24, ia24, bd26, st26, t1, t2, t4, q2, gb5, hle, z06]))
          have hmk : (mark6 2 s).length = 6 := rfl
          refine ⟨t.args.length - (i + 1), by omega, _, _, i + 1, Hb.splice cells' (i * 6) (mark6 2 s), rfl, rfl, by omega, (by simp only [sG, Nat.reduceEqDiff, t1] <;> rfl), (by simp only [sG, Nat.reduceEqDiff, t2] <;> rfl), (by simp only [sB, Nat.reduceEqDiff] <;> rfl), by rw [get_put, if_neg (fun e => by have := hS b hSb; omega)]; exact gp5, by rw [get_put, if_pos rfl], by rw [z0s (by rw [hmk]; exact hle)]; exact hcl',
            fun j hj => ?_, fun j hij hj => ?_, fun j n hij hj hn => ?_, ?_⟩
          · by_cases hji : j = i
            · subst hji; rw [z2k hle rfl]; rfl
            · rw [z1d hle rfl (by rcases Nat.lt_or_gt_of_ne hji with h | h; exact .inl (mul6 h); exact .inr (mul6 h))]; exact hone j hj
          · rw [z1d hle rfl (.inr (mul6 (by omega)))]; exact hsame j (by omega) hj
          · have hnb' : n ≠ b := fun e => hnb j hj (e ▸ hn)
            rw [get_put, if_neg hnb', hk5.keep n (hSn n (hfs.sub j n hj hn)) (fun hq => by have := hfs.one i j n hlt hj hq hn; omega)]; exact hkeep j n (by omega) hj hn
          · exact (hk'.trans (hk5.sub fun n _ hn => hfs.sub i n hlt hn)).put (.inl hSb) (hk5.wf _ _ gb5) _
        · repeat' (first | refine EvC.seq ?_ | refine EvC.scope ?_ | refine EvC.block ?_ | (refine EvC.skip ?_) | (refine EvC.exit ?_; try simp only [sB, reduceCtorEq]) | (refine EvC.ret ?_; try simp only [z01, z00]) | (refine EvC.reg ?_; simp (config := { maxSteps := 2000000 }) (disch := first | omega | rfl) only [sB, Nat.reduceEqDiff, z0r, ld24, ln24, t2, t4, q1, decn hlt]) | (refine EvC.condT ?_ ?_; simp (config := { maxSteps := 2000000 }) (disch := first | omega | rfl) only [sB, Nat.reduceEqDiff]; refine z03 ?_) | (refine EvC.condF ?_ ?_; simp (config := { maxSteps := 2000000 }) (disch := first | omega | rfl) only [sB, Nat.reduceEqDiff]; refine z03 ?_))
          exact ⟨_, _, cells', rfl, (by simp only [sG, Nat.reduceEqDiff, t1] <;> rfl), (by simp only [sG, Nat.reduceEqDiff, t2] <;> rfl), gp', gb', hcl', hone, hk'⟩
      · exact ⟨_, _, 0, cells, rfl, rfl, by omega, (by simp only [sG, Nat.reduceEqDiff, reduceCtorEq] <;> rfl), (by simp only [sG, Nat.reduceEqDiff, reduceCtorEq] <;> rfl), (by simp only [sB, Nat.reduceEqDiff, reduceCtorEq] <;> rfl), gp, hx2.get hw gb, hcl, fun j hj => by rw [hfs.el j _ (List.getElem?_eq_getElem hj)]; exact six_ones, fun _ _ _ => rfl, fun j n _ hj hn => hx2.keep n (hS n (hfs.sub j n hj hn)), hx2.hk S⟩
    · rintro st ⟨tm, H', cells', rfl, t1, t2, gp', gb', hcl', hone, hk'⟩
      have q1 := row6 gp'
      repeat' (first | refine EvC.seq ?_ | refine EvC.scope ?_ | refine EvC.block ?_ | (refine EvC.skip ?_) | (refine EvC.exit ?_) | (refine EvC.ret ?_; try simp only [z01, z00]) | (refine EvC.reg ?_; simp (config := { maxSteps := 2000000 }) (disch := first | omega | rfl) only [sB, Nat.reduceEqDiff, Nat.reduceAdd, Value.cells, one, Nat.reduceLeDiff, layC, z0r, ld24, bd26, zkn, t1, t2, q1]))
      obtain ⟨H6, e6, hx6, g6, hn6, hw6⟩ := new1 hk'.wf (.row (mark6 0 s ++ mark6 0 s) 26)
      have e6' := e6
      simp only [mark6, List.cons_append, List.nil_append] at e6'
      simp only [e6']
      have l6 : H6.load ⟨H'.next, 0, none⟩ (2 * 6) = some (mark6 0 s ++ mark6 0 s) := by unfold Heap.load Heap.cells; simp only [g6]; rfl
      have gb6 := hx6.get hk'.wf gb'
      have e7 : dAp Tryd.prog #[24, 24] (.slice (some ⟨b, 0, none⟩) t.args.length c) (.slice (some ⟨H'.next, 0, none⟩) 2 2) H6 = _ :=
        z6p ean (by omega) (by unfold most; omega) l6 rfl gb6 hcl' (z3a _ hcl' hone)
      have hb6 : H.next ≠ b := fun e => by have := hS b hSb; omega
      have gp6 := hx6.get hk'.wf gp'
      have hk8 : HK S H ((H6.put b none).new (some (.row (cells'.take (t.args.length * 6) ++ (mark6 0 s ++ mark6 0 s)) 26))) := ((hk'.trans (hx6.hk S)).put (.inl hSb) (hw6 _ _ gb6) none).new _
      obtain ⟨H8, e8⟩ : ∃ H8, (H6.put b none).new (some (.row (cells'.take (t.args.length * 6) ++ (mark6 0 s ++ mark6 0 s)) 26)) = H8 := ⟨_, rfl⟩
      have gp8 : H8.get H.next = some (.row (six t (some ⟨b, 0, none⟩) c) 26) := by
        rw [← e8, z26 (by rw [z2m]; exact hw6 _ _ gp6), z3e hb6]; exact gp6
      rw [e8] at e7 hk8
      repeat' (first | refine EvC.seq ?_ | refine EvC.scope ?_ | refine EvC.block ?_ | (refine EvC.skip ?_) | (refine EvC.exit ?_) | (refine EvC.ret ?_; try simp only [z01, z00]) | (refine z0z ?_; simp (config := { maxSteps := 2000000 }) (disch := first | omega | rfl) only [sB, Nat.reduceEqDiff, Nat.reduceAdd, one, z0r, st24, t2, e7, gp8]))
      exact z0v rfl (hk8.put (.inr (Nat.le_refl _)) (hk8.wf _ _ gp8) _)
end Go.Proofs.YtlllbkjiadcloaaDoor.hb
end

-- Z16
section
namespace Go.Proofs.YtlllbkjiadcloaaDoor.hb
open Go Go.RowKit Go.Hb
variable {ok : Ok}
set_option maxRecDepth 10000
attribute [local irreducible] LX LG EL STG SOP SGO SGD SAL SRD SEF SEG SLK SCK ES
noncomputable def eqT (t t' : Tm) : Bool := @decide (t = t') (Classical.propDecidable _)
theorem zmi {t t' : Tm} (h : t = t') : eqT t t' = true := by unfold eqT; exact @decide_eq_true _ (Classical.propDecidable _) h
theorem z9g {t t' : Tm} (h : t ≠ t') : eqT t t' = false := by unfold eqT; exact @decide_eq_false _ (Classical.propDecidable _) h
theorem z55 {a b : ByteArray} (h : a = b) : (a.toList == b.toList) = true := by rw [h]; exact beq_self_eq_true _
theorem zl0 {a b : ByteArray} (h : a ≠ b) : (a.toList == b.toList) = false := by
  rw [beq_eq_false_iff_ne]; exact fun q => h (z5e q)
set_option maxHeartbeats 4000000 in
theorem zmj {m : Nat} : ∀ {t t' : Tm} {cs cs' : List Value} {H : Heap}, SizeOf.sizeOf t < m → RepT H t cs → RepT H t' cs' → H.wf →
    EvF Tryd.prog okT 20 [.agg ⟨cs⟩, .agg ⟨cs'⟩] H fun v H' => v = .bool (eqT t t') ∧ HX H H' := by
  induction m with
  | zero => intro t t' cs cs' H h; omega
  | succ m ih =>
  intro t t' cs cs' H hsz r r' hw
  obtain ⟨a, c, cells, rfl, b1, b2, b3, b4, b5, rl⟩ := r.six
  obtain ⟨a', c', cells', rfl, b1', b2', b3', b4', b5', rl'⟩ := r'.six
  refine EvF.enter rfl Tryd.func20 (by decide) rfl ?_
  (repeat refine EvC.seq ?_); refine EvC.reg ?_; simp (config := { maxSteps := 2000000 }) (disch := first | omega | rfl) only [sB, initTm, dBox, Nat.reduceEqDiff, Value.cells, one, reduceCtorEq]
  obtain ⟨H2, e2, hx2, gp, gq, hnx, hw2⟩ := new2 hw (.row (six t a c) 26) (.row (six t' a' c') 26)
  simp only [e2]
  have q1 := row6 gp
  have q2 := row6 gq
  clear e2
  by_cases k1 : t.kind = t'.kind
  rotate_left
  · repeat' (first | refine EvC.seq ?_ | refine EvC.scope ?_ | refine EvC.block ?_ | (refine EvC.skip ?_) | (refine EvC.exit ?_) | (refine EvC.ret ?_; try simp only [z01, z00]) | (refine EvC.reg ?_; simp (config := { maxSteps := 2000000 }) (disch := first | omega | rfl) only [sB, Nat.reduceEqDiff, reduceCtorEq, z0w, ld3, z2x k1, q1, q2]) | (refine EvC.condT ?_ ?_; simp (config := { maxSteps := 2000000 }) (disch := first | omega | rfl) only [sB, Nat.reduceEqDiff, reduceCtorEq]; refine z03 ?_))
    exact z04 rfl (by simp only [sB, Nat.reduceEqDiff, reduceCtorEq] <;> rfl) ⟨by rw [z9g (fun h => k1 (by rw [h]))], hx2⟩
  by_cases k2 : t.name = t'.name
  rotate_left
  · repeat' (first | refine EvC.seq ?_ | refine EvC.scope ?_ | refine EvC.block ?_ | (refine EvC.skip ?_) | (refine EvC.exit ?_) | (refine EvC.ret ?_; try simp only [z01, z00]) | (refine EvC.reg ?_; simp (config := { maxSteps := 2000000 }) (disch := first | omega | rfl) only [sB, Nat.reduceEqDiff, reduceCtorEq, z0w, ld3, z2j, ld9, z10 k1, q1, q2, z1g, zl0 k2, Bool.not_false, Bool.false_eq_true]) | (refine EvC.condT ?_ ?_; simp (config := { maxSteps := 2000000 }) (disch := first | omega | rfl) only [sB, Nat.reduceEqDiff, reduceCtorEq]; refine z03 ?_))
    exact z04 rfl (by simp only [sB, Nat.reduceEqDiff, reduceCtorEq] <;> rfl) ⟨by rw [z9g (fun h => k2 (by rw [h]))], hx2⟩
  by_cases k3 : t.num = t'.num
  rotate_left
  · repeat' (first | refine EvC.seq ?_ | refine EvC.scope ?_ | refine EvC.block ?_ | (refine EvC.skip ?_) | (refine EvC.exit ?_) | (refine EvC.ret ?_; try simp only [z01, z00]) | (refine EvC.reg ?_; simp (config := { maxSteps := 2000000 }) (disch := first | omega | rfl) only [sB, Nat.reduceEqDiff, reduceCtorEq, z0w, ld3, z2j, ld9, z6y, z10 k1, q1, q2, z1g, z55 k2, zl0 k3, Bool.not_false, Bool.not_true, Bool.false_eq_true]) | (refine EvC.condT ?_ ?_; simp (config := { maxSteps := 2000000 }) (disch := first | omega | rfl) only [sB, Nat.reduceEqDiff, reduceCtorEq]; refine z03 ?_))
    exact z04 rfl (by simp only [sB, Nat.reduceEqDiff, reduceCtorEq] <;> rfl) ⟨by rw [z9g (fun h => k3 (by rw [h]))], hx2⟩
  by_cases k4 : t.bits = t'.bits
  rotate_left
  · repeat' (first | refine EvC.seq ?_ | refine EvC.scope ?_ | refine EvC.block ?_ | (refine EvC.skip ?_) | (refine EvC.exit ?_) | (refine EvC.ret ?_; try simp only [z01, z00]) | (refine EvC.reg ?_; simp (config := { maxSteps := 2000000 }) (disch := first | omega | rfl) only [sB, Nat.reduceEqDiff, reduceCtorEq, z0w, ld3, z2j, ld9, z6y, z6z, ld23, z10 k1, q1, q2, z1g, z55 k2, z55 k3, z2x k4, Bool.not_true, Bool.false_eq_true]) | (refine EvC.condT ?_ ?_; simp (config := { maxSteps := 2000000 }) (disch := first | omega | rfl) only [sB, Nat.reduceEqDiff, reduceCtorEq]; refine z03 ?_))
    exact z04 rfl (by simp only [sB, Nat.reduceEqDiff, reduceCtorEq] <;> rfl) ⟨by rw [z9g (fun h => k4 (by rw [h]))], hx2⟩
  by_cases k5 : t.var = t'.var
  rotate_left
  · repeat' (first | refine EvC.seq ?_ | refine EvC.scope ?_ | refine EvC.block ?_ | (refine EvC.skip ?_) | (refine EvC.exit ?_) | (refine EvC.ret ?_; try simp only [z01, z00]) | (refine EvC.reg ?_; simp (config := { maxSteps := 2000000 }) (disch := first | omega | rfl) only [sB, Nat.reduceEqDiff, reduceCtorEq, z0w, ld3, z2j, ld9, z6y, z6z, ld23, zaj, z10 k1, q1, q2, z1g, z55 k2, z55 k3, z10 k4, z2x k5, Bool.not_true, Bool.false_eq_true]) | (refine EvC.condT ?_ ?_; simp (config := { maxSteps := 2000000 }) (disch := first | omega | rfl) only [sB, Nat.reduceEqDiff, reduceCtorEq]; refine z03 ?_))
    exact z04 rfl (by simp only [sB, Nat.reduceEqDiff, reduceCtorEq] <;> rfl) ⟨by rw [z9g (fun h => k5 (by rw [h]))], hx2⟩
  by_cases k6 : (t.args.length : Int) = t'.args.length
  rotate_left
  · repeat' (first | refine EvC.seq ?_ | refine EvC.scope ?_ | refine EvC.block ?_ | (refine EvC.skip ?_) | (refine EvC.exit ?_) | (refine EvC.ret ?_; try simp only [z01, z00]) | (refine EvC.reg ?_; simp (config := { maxSteps := 2000000 }) (disch := first | omega | rfl) only [sB, Nat.reduceEqDiff, reduceCtorEq, z0w, ld3, z2j, ld9, z6y, z6z, ld23, zaj, z0r, ld24, ln24, z10 k1, q1, q2, z1g, z55 k2, z55 k3, z10 k4, z10 k5, z2x k6, Bool.not_true, Bool.false_eq_true]) | (refine EvC.condT ?_ ?_; simp (config := { maxSteps := 2000000 }) (disch := first | omega | rfl) only [sB, Nat.reduceEqDiff, reduceCtorEq]; refine z03 ?_))
    exact z04 rfl (by simp only [sB, Nat.reduceEqDiff, reduceCtorEq] <;> rfl) ⟨by rw [z9g (fun h => k6 (by rw [h]))], hx2⟩
  repeat' (first | refine EvC.seq ?_ | refine EvC.scope ?_ | refine EvC.block ?_ | (refine EvC.skip ?_; try simp only [z02]) | (refine EvC.exit ?_) | (refine EvC.ret ?_; try simp only [z01, z00]) | (refine EvC.reg ?_; simp (config := { maxSteps := 2000000 }) (disch := first | omega | rfl) only [sB, Nat.reduceEqDiff, reduceCtorEq, z0w, ld3, z2j, ld9, z6y, z6z, ld23, zaj, z0r, ld24, ln24, z10 k1, q1, q2, z1g, z55 k2, z55 k3, z10 k4, z10 k5, z10 k6, Bool.not_true, Bool.false_eq_true]) | (refine EvC.condT ?_ ?_; simp (config := { maxSteps := 2000000 }) (disch := first | omega | rfl) only [sB, Nat.reduceEqDiff, reduceCtorEq]; refine z03 ?_) | (refine EvC.condF ?_ ?_; simp (config := { maxSteps := 2000000 }) (disch := first | omega | rfl) only [sB, Nat.reduceEqDiff, reduceCtorEq]; refine z03 ?_))
  have hlen : t.args.length = t'.args.length := by omega
  have hm := rl.max
  refine EvC.loop (fun k st => ∃ tm H' i, st = ⟨tm, [], H'⟩ ∧ k = t.args.length - i ∧ i ≤ t.args.length ∧ (∀ j, j < i → t.args[j]? = t'.args[j]?) ∧
      tm.get 2 = some (.pointer (some ⟨H.next, 0, none⟩)) ∧ tm.get 3 = some (.pointer (some ⟨H.next + 1, 0, none⟩)) ∧ tm.get 5 = some (.int .i64 (i : Nat)) ∧
      H'.get H.next = some (.row (six t a c) 26) ∧ H'.get (H.next + 1) = some (.row (six t' a' c') 26) ∧ HX H H') ?_ t.args.length _ ?_
  · rintro k st ⟨tm, H', i, rfl, rfl, hi, hc, t2, t3, t5, gp', gq', hx'⟩
    have q1 := row6 gp'
    have q2 := row6 gq'
    by_cases hlt : i < t.args.length
    · have hlt' : i < t'.args.length := by omega
      obtain ⟨b, o, a1, c1, rfl, hld, hr1⟩ := rl.el hlt
      obtain ⟨b', o', a2, c2, rfl, hld', hr2⟩ := rl'.el hlt'
      have hld1 := hx'.load hw hld
      have hld2 := hx'.load hw hld'
      repeat' (first | refine EvC.seq ?_ | refine EvC.scope ?_ | refine EvC.block ?_ | (refine EvC.skip ?_; try simp only [z02]) | (refine EvC.exit ?_) | (refine EvC.ret ?_; try simp only [z01, z00]) | (refine EvC.reg ?_; simp (config := { maxSteps := 2000000 }) (disch := first | omega | rfl) only [sB, Nat.reduceEqDiff, z0r, ld24, ln24, t2, t5, q1, decl hlt]) | (refine EvC.drw [([(0, 0), (1, 0), (2, 0), (3, 0), (4, 0), (5, 0), (6, 0), (7, 0), (8, 0), (9, 0)], some 10), ([(11, 1)], none)] ?_ ?_; kernel_rfl; simp (config := { maxSteps := 2000000 }) (disch := first | omega | rfl) only [sD, sB, Nat.reduceEqDiff, Nat.reduceAdd, reduceCtorEq, z0r, ld24, ia24, ld26, cl20, t2, t3, t5, q1, q2, hld1, hld2, isAlloc, isRead, reduceCtorEq]) | (refine EvC.condT ?_ ?_; simp (config := { maxSteps := 2000000 }) (disch := first | omega | rfl) only [sB, Nat.reduceEqDiff]; refine z03 ?_))
      have hb := hx'.bump 12
      have hs := z1h (List.getElem?_eq_getElem hlt)
      refine (ih (t := t.args[i]) (t' := t'.args[i]) (by omega) (hr1.mono hb hw) (hr2.mono hb hw) hb.wf).mono ?_
      rintro v H4 ⟨rfl, hx4⟩
      have hx5 := hb.trans hx4
      by_cases he : t.args[i] = t'.args[i]
      · repeat' (first | refine EvC.seq ?_ | refine EvC.scope ?_ | refine EvC.block ?_ | (refine EvC.skip ?_; try simp only [sA]) | (refine EvC.exit ?_) | (refine EvC.ret ?_; try simp only [z01, z00]) | (refine EvC.reg ?_; simp (config := { maxSteps := 2000000 }) (disch := first | omega | rfl) only [sB, Nat.reduceEqDiff, Bool.not_true, t5, z06]) | (refine z0n ?_; simp (config := { maxSteps := 2000000 }) (disch := first | omega | rfl) only [sD, sB, Nat.reduceEqDiff, zmi he, isAlloc, isRead]) | (refine EvC.condT ?_ ?_; simp (config := { maxSteps := 2000000 }) (disch := first | omega | rfl) only [sB, Nat.reduceEqDiff]; refine z03 ?_) | (refine EvC.condF ?_ ?_; simp (config := { maxSteps := 2000000 }) (disch := first | omega | rfl) only [sB, Nat.reduceEqDiff]; refine z03 ?_))
        refine ⟨t.args.length - (i + 1), by omega, _, _, i + 1, rfl, rfl, by omega, fun j hj => ?_, (by simp only [sG, Nat.reduceEqDiff, t2] <;> rfl), (by simp only [sG, Nat.reduceEqDiff, t3] <;> rfl), (by simp only [sB, Nat.reduceEqDiff] <;> rfl), hx4.get hb.wf gp', hx4.get hb.wf gq', hx5⟩
        by_cases hji : j = i
        · subst hji; rw [List.getElem?_eq_getElem hlt, List.getElem?_eq_getElem hlt', he]
        · exact hc j (by omega)
      · repeat' (first | refine EvC.seq ?_ | refine EvC.scope ?_ | refine EvC.block ?_ | (refine EvC.skip ?_) | (refine EvC.exit ?_) | (refine EvC.ret ?_; try simp only [z01, z00]) | (refine EvC.reg ?_; simp (config := { maxSteps := 2000000 }) (disch := first | omega | rfl) only [sB, Nat.reduceEqDiff, Bool.not_false]) | (refine z0n ?_; simp (config := { maxSteps := 2000000 }) (disch := first | omega | rfl) only [sD, sB, Nat.reduceEqDiff, z9g he, isAlloc, isRead]) | (refine EvC.condT ?_ ?_; simp (config := { maxSteps := 2000000 }) (disch := first | omega | rfl) only [sB, Nat.reduceEqDiff]; refine z03 ?_))
        refine z04 rfl (by simp only [sB, Nat.reduceEqDiff] <;> rfl) ⟨?_, hx5⟩
        rw [z9g]
        rintro rfl
        exact he rfl
    · repeat' (first | refine EvC.seq ?_ | refine EvC.scope ?_ | refine EvC.block ?_ | (refine EvC.skip ?_) | (refine EvC.exit ?_; try simp only [sB]) | (refine EvC.ret ?_; try simp only [z01, z00]) | (refine EvC.reg ?_; simp (config := { maxSteps := 2000000 }) (disch := first | omega | rfl) only [sB, Nat.reduceEqDiff, z0r, ld24, ln24, t2, t5, q1, decn hlt]) | (refine EvC.condT ?_ ?_; simp (config := { maxSteps := 2000000 }) (disch := first | omega | rfl) only [sB, Nat.reduceEqDiff]; refine z03 ?_) | (refine EvC.condF ?_ ?_; simp (config := { maxSteps := 2000000 }) (disch := first | omega | rfl) only [sB, Nat.reduceEqDiff]; refine z03 ?_))
      refine z04 rfl (by simp only [sB, Nat.reduceEqDiff] <;> rfl) ⟨?_, hx'⟩
      rw [zmi]
      refine znn k1 k2 k3 k4 k5 (List.ext_getElem? fun j => ?_)
      by_cases hj : j < i
      · exact hc j hj
      · rw [List.getElem?_eq_none (by omega), List.getElem?_eq_none (by omega)]
  · exact ⟨_, _, 0, rfl, rfl, by omega, by omega, (by simp only [sG, Nat.reduceEqDiff, reduceCtorEq] <;> rfl), (by simp only [sG, Nat.reduceEqDiff, reduceCtorEq] <;> rfl), (by simp only [sB, Nat.reduceEqDiff, reduceCtorEq] <;> rfl), gp, gq, hx2⟩
theorem zff {t t' : Tm} {cs cs' : List Value} {H : Heap} (r : RepT H t cs) (r' : RepT H t' cs') (hw : H.wf) :
    EvF Tryd.prog okT 20 [.agg ⟨cs⟩, .agg ⟨cs'⟩] H fun v H' => v = .bool (eqT t t') ∧ HX H H' := zmj (Nat.lt_succ_self _) r r' hw
end Go.Proofs.YtlllbkjiadcloaaDoor.hb
end

-- V4
section
namespace Go.Hb
open Go Go.RowKit
def ApV (S : Nat → Prop) (H0 H : Heap) (T : TypeId) (v : Value) (n : Nat) : Prop :=
  (n = 0 ∧ v = .slice none 0 0) ∨ ∃ b cells c, v = .slice (some ⟨b, 0, none⟩) n c ∧ H.get b = some (.row cells T) ∧ n * 6 ≤ cells.length ∧ (cells.take (n * 6)).all one = true ∧ (S b ∨ H0.next ≤ b)
theorem ApV.push {P : Program} {T t : TypeId} (hp : apOk P t T 6) {S : Nat → Prop} {H0 H : Heap} {v : Value} {n c1 : Nat} {ad : Addr} {cs : List Value} (h : ApV S H0 H T v n) (hk : HK S H0 H) (hl : H.load ad (1 * 6) = some cs) (hc : cs.all one = true) (hlc : cs.length = 6) (hm : n + 1 ≤ most) :
    ∃ H2 v2, dAp P #[t, t] v (.slice (some ad) 1 c1) H = some (.val v2 H2) ∧ ApV S H0 H2 T v2 (n + 1) ∧ HK S H0 H2 := by
  rcases h with ⟨rfl, rfl⟩ | ⟨b, cells, c, rfl, hg, hn, ho, hb⟩
  · refine ⟨_, _, z8v hp (by omega) hm hl hc, .inr ⟨H.next, cs, 1, rfl, z0q, by omega, ?_, .inr hk.next⟩, hk.new _⟩
    rw [List.take_of_length_le (by omega)]; exact hc
  · refine ⟨_, _, z6p hp (by omega) hm hl hc hg hn ho, .inr ⟨H.next, _, _, rfl, z0q, ?_, ?_, .inr hk.next⟩, (hk.put hb (hk.wf _ _ hg) none).new _⟩
    · simp; omega
    · rw [List.take_of_length_le (by simp; omega), List.all_append, ho, hc]; rfl
end Go.Hb
namespace Go.Proofs.YtlllbkjiadcloaaDoor.hb
open Go Go.RowKit Go.Hb
variable {ok : Ok}
set_option maxRecDepth 10000
attribute [local irreducible] LX LG EL STG SOP SGO SGD SAL SRD SEF SEG SLK SCK ES
noncomputable def eqL (l l' : List Tm) : Bool := @decide (l = l') (Classical.propDecidable _)
theorem zmk {t t' : List Tm} (h : t = t') : eqL t t' = true := by unfold eqL; exact @decide_eq_true _ (Classical.propDecidable _) h
theorem znq {t t' : List Tm} (h : t ≠ t') : eqL t t' = false := by unfold eqL; exact @decide_eq_false _ (Classical.propDecidable _) h
set_option maxHeartbeats 4000000 in
theorem z7i {l l' : List Tm} {a a' : Option Addr} {c c' : Nat} {cells cells' : Nat → List Value} {H : Heap} (rl : RepL H l a c cells) (rl' : RepL H l' a' c' cells') (hw : H.wf) :
    EvF Tryd.prog okT 42 [.slice a l.length c, .slice a' l'.length c'] H fun v H' => v = .bool (eqL l l') ∧ HX H H' := by
  have hm := rl.max
  refine EvF.enter rfl Tryd.func42 (by decide) rfl ?_
  by_cases k6 : (l.length : Int) = l'.length
  rotate_left
  · repeat' (first | refine EvC.seq ?_ | refine EvC.scope ?_ | refine EvC.block ?_ | (refine EvC.skip ?_) | (refine EvC.exit ?_) | (refine EvC.ret ?_; try simp only [z01, z00]) | (refine EvC.reg ?_; simp (config := { maxSteps := 2000000 }) (disch := first | omega | rfl) only [sB, initTm, Nat.reduceEqDiff, reduceCtorEq, ln24, z2x k6]) | (refine EvC.condT ?_ ?_; simp (config := { maxSteps := 2000000 }) (disch := first | omega | rfl) only [sB, Nat.reduceEqDiff, reduceCtorEq]; refine z03 ?_))
    exact z04 rfl (by simp only [sB, Nat.reduceEqDiff, reduceCtorEq] <;> rfl) ⟨by rw [znq (fun h => k6 (by rw [h]))], HX.refl hw⟩
  have hlen : l.length = l'.length := by omega
  repeat' (first | refine EvC.seq ?_ | refine EvC.scope ?_ | refine EvC.block ?_ | (refine EvC.skip ?_; try simp only [z02]) | (refine EvC.exit ?_) | (refine EvC.ret ?_; try simp only [z01, z00]) | (refine EvC.reg ?_; simp (config := { maxSteps := 2000000 }) (disch := first | omega | rfl) only [sB, initTm, Nat.reduceEqDiff, reduceCtorEq, ln24, z10 k6]) | (refine EvC.condT ?_ ?_; simp (config := { maxSteps := 2000000 }) (disch := first | omega | rfl) only [sB, Nat.reduceEqDiff, reduceCtorEq]; refine z03 ?_) | (refine EvC.condF ?_ ?_; simp (config := { maxSteps := 2000000 }) (disch := first | omega | rfl) only [sB, Nat.reduceEqDiff, reduceCtorEq]; refine z03 ?_))
  refine EvC.loop (fun k st => ∃ tm H' i, st = ⟨tm, [], H'⟩ ∧ k = l.length - i ∧ i ≤ l.length ∧ (∀ j : Nat, j < i → l[j]? = l'[j]?) ∧
      tm.get 0 = some (.slice a l.length c) ∧ tm.get 1 = some (.slice a' l'.length c') ∧ tm.get 5 = some (.int .i64 (i : Nat)) ∧ HX H H') ?_ l.length _ ?_
  · rintro k st ⟨tm, H', i, rfl, rfl, hi, hc, t0, t1, t5, hx'⟩
    by_cases hlt : i < l.length
    · have hlt' : i < l'.length := by omega
      obtain ⟨b, o, a1, c1, rfl, hld, hr1⟩ := rl.el hlt
      obtain ⟨b', o', a2, c2, rfl, hld', hr2⟩ := rl'.el hlt'
      have hld1 := hx'.load hw hld
      have hld2 := hx'.load hw hld'
      repeat' (first | refine EvC.seq ?_ | refine EvC.scope ?_ | refine EvC.block ?_ | (refine EvC.skip ?_; try simp only [z02]) | (refine EvC.exit ?_) | (refine EvC.ret ?_; try simp only [z01, z00]) | (refine EvC.reg ?_; simp (config := { maxSteps := 2000000 }) (disch := first | omega | rfl) only [sB, Nat.reduceEqDiff, reduceCtorEq, ln24, t0, t5, decl hlt]) | (refine EvC.drw [([(0, 0), (1, 0), (2, 0), (3, 0), (4, 0), (5, 0), (6, 0), (7, 0)], some 8), ([(9, 1)], none)] ?_ ?_; kernel_rfl; simp (config := { maxSteps := 2000000 }) (disch := first | omega | rfl) only [sD, sB, Nat.reduceEqDiff, Nat.reduceAdd, reduceCtorEq, ia24, ld26, cl20, t0, t1, t5, hld1, hld2, isAlloc, isRead, reduceCtorEq]) | (refine EvC.condT ?_ ?_; simp (config := { maxSteps := 2000000 }) (disch := first | omega | rfl) only [sB, Nat.reduceEqDiff]; refine z03 ?_))
      have hb := hx'.bump 10
      refine (zff (hr1.mono hb hw) (hr2.mono hb hw) hb.wf).mono ?_
      rintro v H4 ⟨rfl, hx4⟩
      by_cases he : l[i] = l'[i]
      · repeat' (first | refine EvC.seq ?_ | refine EvC.scope ?_ | refine EvC.block ?_ | (refine EvC.skip ?_; try simp only [sA]) | (refine EvC.exit ?_) | (refine EvC.ret ?_; try simp only [z01, z00]) | (refine EvC.reg ?_; simp (config := { maxSteps := 2000000 }) (disch := first | omega | rfl) only [sB, Nat.reduceEqDiff, Bool.not_true, t5, z06]) | (refine z0n ?_; simp (config := { maxSteps := 2000000 }) (disch := first | omega | rfl) only [sD, sB, Nat.reduceEqDiff, zmi he, isAlloc, isRead]) | (refine EvC.condT ?_ ?_; simp (config := { maxSteps := 2000000 }) (disch := first | omega | rfl) only [sB, Nat.reduceEqDiff]; refine z03 ?_) | (refine EvC.condF ?_ ?_; simp (config := { maxSteps := 2000000 }) (disch := first | omega | rfl) only [sB, Nat.reduceEqDiff]; refine z03 ?_))
        refine ⟨l.length - (i + 1), by omega, _, _, i + 1, rfl, rfl, by omega, fun j hj => ?_, (by simp only [sG, reduceCtorEq, t0] <;> rfl), (by simp only [sG, Nat.reduceEqDiff, t1] <;> rfl), (by simp only [sB, Nat.reduceEqDiff] <;> rfl), hb.trans hx4⟩
        by_cases hji : j = i
        · subst hji; rw [List.getElem?_eq_getElem hlt, List.getElem?_eq_getElem hlt', he]
        · exact hc j (by omega)
      · repeat' (first | refine EvC.seq ?_ | refine EvC.scope ?_ | refine EvC.block ?_ | (refine EvC.skip ?_) | (refine EvC.exit ?_) | (refine EvC.ret ?_; try simp only [z01, z00]) | (refine EvC.reg ?_; simp (config := { maxSteps := 2000000 }) (disch := first | omega | rfl) only [sB, Nat.reduceEqDiff, Bool.not_false]) | (refine z0n ?_; simp (config := { maxSteps := 2000000 }) (disch := first | omega | rfl) only [sD, sB, Nat.reduceEqDiff, z9g he, isAlloc, isRead]) | (refine EvC.condT ?_ ?_; simp (config := { maxSteps := 2000000 }) (disch := first | omega | rfl) only [sB, Nat.reduceEqDiff]; refine z03 ?_))
        refine z04 rfl (by simp only [sB, Nat.reduceEqDiff] <;> rfl) ⟨?_, hb.trans hx4⟩
        rw [znq]
        rintro rfl
        exact he rfl
    · repeat' (first | refine EvC.seq ?_ | refine EvC.scope ?_ | refine EvC.block ?_ | (refine EvC.skip ?_) | (refine EvC.exit ?_; try simp only [sB]) | (refine EvC.ret ?_; try simp only [z01, z00]) | (refine EvC.reg ?_; simp (config := { maxSteps := 2000000 }) (disch := first | omega | rfl) only [sB, Nat.reduceEqDiff, reduceCtorEq, ln24, t0, t5, decn hlt]) | (refine EvC.condT ?_ ?_; simp (config := { maxSteps := 2000000 }) (disch := first | omega | rfl) only [sB, Nat.reduceEqDiff]; refine z03 ?_) | (refine EvC.condF ?_ ?_; simp (config := { maxSteps := 2000000 }) (disch := first | omega | rfl) only [sB, Nat.reduceEqDiff]; refine z03 ?_))
      refine z04 rfl (by simp only [sB, Nat.reduceEqDiff] <;> rfl) ⟨?_, hx'⟩
      rw [zmk]
      refine List.ext_getElem? fun j => ?_
      by_cases hj : j < i
      · exact hc j hj
      · rw [List.getElem?_eq_none (by omega), List.getElem?_eq_none (by omega)]
  · exact ⟨_, _, 0, rfl, rfl, by omega, by omega, (by simp only [sG, reduceCtorEq] <;> rfl), (by simp only [sG, Nat.reduceEqDiff, reduceCtorEq] <;> rfl), (by simp only [sB, Nat.reduceEqDiff, reduceCtorEq] <;> rfl), HX.refl hw⟩
set_option maxHeartbeats 4000000 in
theorem ze5 {l l' l2 : List Tm} {a a' a2 : Option Addr} {c c' c2 : Nat} {S : Nat → Prop} {cells' cells2 : Nat → List Value} {H : Heap} (hf : FL H 26 S l a c) (rl' : RepL H l' a' c' cells') (rl2 : RepL H l2 a2 c2 cells2)
    (hS : ∀ n, S n → n < H.next) (hst : ∀ G, HK S H G → RepL G l' a' c' cells' ∧ RepL G l2 a2 c2 cells2) (hfew : ∀ t ∈ l, Few 1000000 t) (hlen : l.length ≤ 1000000) (hw : H.wf) :
    EvF Tryd.prog okT 26 [.slice a l.length c, .slice a' l'.length c', .slice a2 l2.length c2] H fun v H' => v = .bool (eqL l l2 && eqL l' l2) ∧ HK S H H' := by
  obtain ⟨cells0, rl⟩ := hf.rep
  have ean : apOk Tryd.prog 24 26 6 := ap24
  refine EvF.enter rfl Tryd.func26 (by decide) rfl ?_
  repeat' (first | refine EvC.seq ?_ | refine EvC.scope ?_ | refine EvC.block ?_ | (refine EvC.skip ?_) | (refine EvC.exit ?_) | (refine EvC.ret ?_; try simp only [z01, z00]) | (refine EvC.reg ?_; simp (config := { maxSteps := 2000000 }) (disch := first | omega | rfl) only [sB, initTm, Nat.reduceEqDiff, Nat.reduceAdd, reduceCtorEq, cl42]))
  refine (z7i rl rl2 hw).mono ?_
  rintro v H1 ⟨rfl, hx1⟩
  have hf1 := hf.keep hx1 hw
  try simp (config := { maxSteps := 2000000 }) (disch := first | omega | rfl) only []
  (repeat refine EvC.seq ?_); refine EvC.reg ?_; simp (config := { maxSteps := 2000000 }) (disch := first | omega | rfl) only [sA]
  refine EvC.meet (fun st => ∃ tm H' v, st = ⟨tm, [], H'⟩ ∧ tm.get 0 = some v ∧ tm.get 1 = some (.slice a' l'.length c') ∧ tm.get 2 = some (.slice a2 l2.length c2) ∧ tm.get 7 = some (.bool (eqL l l2)) ∧
    ApV S H H' 26 v l.length ∧ HK S H H') ?_ ?_
  · rcases hf1.inv with ⟨he, rfl, rfl⟩ | ⟨b, cells, Si, ai, ci, rfl, hlc, hcm, gb, hcl, hSb, hnb, hfs⟩
    · have he0 : l.length = 0 := by rw [he]; rfl
      have hd' : decide ((0 : Int) < (l.length : Int)) = false := decide_eq_false (by omega)
      refine EvC.block (EvC.loop1 ?_)
      repeat' (first | refine EvC.seq ?_ | refine EvC.scope ?_ | refine EvC.block ?_ | (refine EvC.skip ?_) | (refine EvC.exit ?_; try simp only [sB, reduceCtorEq]) | (refine EvC.ret ?_; try simp only [z01, z00]) | (refine EvC.reg ?_; simp (config := { maxSteps := 2000000 }) (disch := first | omega | rfl) only [sB, Nat.reduceEqDiff, reduceCtorEq, ln24, hd']) | (refine EvC.condT ?_ ?_; simp (config := { maxSteps := 2000000 }) (disch := first | omega | rfl) only [sB, Nat.reduceEqDiff, reduceCtorEq]; refine z03 ?_) | (refine EvC.condF ?_ ?_; simp (config := { maxSteps := 2000000 }) (disch := first | omega | rfl) only [sB, Nat.reduceEqDiff, reduceCtorEq]; refine z03 ?_))
      exact ⟨_, _, _, rfl, (by simp only [sB, reduceCtorEq] <;> rfl), (by simp only [sG, Nat.reduceEqDiff, reduceCtorEq] <;> rfl), (by simp only [sG, Nat.reduceEqDiff, reduceCtorEq] <;> rfl), (by simp only [sG, Nat.reduceEqDiff, reduceCtorEq] <;> rfl), .inl ⟨he0, by rw [he0]⟩, hx1.hk S⟩
    · refine EvC.block (EvC.loop (fun k st => ∃ tm H' i cells', st = ⟨tm, [], H'⟩ ∧ k = l.length - i ∧ i ≤ l.length ∧ tm.get 0 = some (.slice (some ⟨b, 0, none⟩) l.length c) ∧ tm.get 1 = some (.slice a' l'.length c') ∧ tm.get 2 = some (.slice a2 l2.length c2) ∧ tm.get 7 = some (.bool (eqL l l2)) ∧ tm.get 8 = some (.int .i64 (i : Nat)) ∧
        H'.get b = some (.row cells' 26) ∧ l.length * 6 ≤ cells'.length ∧ (∀ j, j < l.length → ((cells'.drop (j * 6)).take 6).all one = true) ∧
        (∀ j, i ≤ j → j < l.length → (cells'.drop (j * 6)).take 6 = (cells.drop (j * 6)).take 6) ∧ (∀ j n, i ≤ j → j < l.length → Si j n → H'.get n = H1.get n) ∧ HK S H H') ?_ l.length _ ?_)
      · rintro k st ⟨tm, H', i, cells', rfl, rfl, hi, t0, t1, t2, t7, t8, gb', hcl', hone, hsame, hkeep, hk'⟩
        by_cases hlt : i < l.length
        · have hu := List.getElem?_eq_getElem hlt
          have hld : H'.load ⟨b, i * 6, none⟩ 6 = some (six l[i] (ai i) (ci i)) := by
            unfold Heap.load Heap.cells
            simp only [gb', hsame i (Nat.le_refl _) hlt, hfs.el i _ hu]
            rfl
          have hle : i * 6 + 6 ≤ cells'.length := by have := mul6 hlt; omega
          have hmine : (⟨#[109, 105, 110, 101]⟩ : ByteArray).size ≤ maxLen := by simp [maxLen, ByteArray.size]
          repeat' (first | refine EvC.seq ?_ | refine EvC.scope ?_ | refine EvC.block ?_ | (refine EvC.skip ?_; try simp only [z02]) | (refine EvC.exit ?_) | (refine EvC.ret ?_; try simp only [z01, z00]) | (refine EvC.reg ?_; simp (config := { maxSteps := 2000000 }) (disch := first | omega | rfl) only [sB, Nat.reduceEqDiff, reduceCtorEq, ln24, ia24, ld26, cl23, t0, t8, decl hlt, hld]) | (refine EvC.condT ?_ ?_; simp (config := { maxSteps := 2000000 }) (disch := first | omega | rfl) only [sB, Nat.reduceEqDiff]; refine z03 ?_))
          have hfi := (hfs.fl i _ hu).heap (H' := H') (fun n hn _ => hkeep i n (Nat.le_refl _) hlt hn) hx1.wf
          have hSn : ∀ n, S n → n < H'.next := fun n hn => Nat.lt_of_lt_of_le (hS n hn) hk'.next
          refine (zi0 (Nat.lt_succ_self _) ⟨ai i, ci i, rfl, hfs.bd i _ hu, hfi⟩ (hfew _ (List.getElem_mem _)) (fun n hn => hSn n (hfs.sub i n hlt hn)) hk'.wf).mono ?_
          rintro v H5 hk5
          have gb5 := hk5.get hk'.wf gb' (fun hq => hnb i hlt hq)
          have hmx : l.length ≤ 9223372036854775807 := by omega
          repeat' (first | refine EvC.seq ?_ | refine EvC.scope ?_ | refine EvC.block ?_ | (refine EvC.skip ?_) | (refine EvC.exit ?_) | (refine EvC.ret ?_; try simp only [z01, z00]) | (refine EvC.reg ?_; simp (config := { maxSteps := 2000000 }) (disch := first | omega | rfl) only [sB, Nat.reduceEqDiff, Nat.reduceAdd, Value.cells, one, reduceCtorEq, Nat.reduceLeDiff, layC, ia24, bd26, st26, t0, t8, gb5, hle, z06]))
          have hmk : (mark6 (-1) ByteArray.empty).length = 6 := rfl
          refine ⟨l.length - (i + 1), by omega, _, _, i + 1, Hb.splice cells' (i * 6) (mark6 (-1) ByteArray.empty), rfl, rfl, by omega, (by simp only [sG, reduceCtorEq, t0] <;> rfl), (by simp only [sG, Nat.reduceEqDiff, t1] <;> rfl), (by simp only [sG, Nat.reduceEqDiff, t2] <;> rfl), (by simp only [sG, Nat.reduceEqDiff, t7] <;> rfl), (by simp only [sB, Nat.reduceEqDiff] <;> rfl), by rw [get_put, if_pos rfl], by rw [z0s (by rw [hmk]; exact hle)]; exact hcl',
            fun j hj => ?_, fun j hij hj => ?_, fun j n hij hj hn => ?_, ?_⟩
          · by_cases hji : j = i
            · subst hji; rw [z2k hle rfl]; rfl
            · rw [z1d hle rfl (by rcases Nat.lt_or_gt_of_ne hji with h | h; exact .inl (mul6 h); exact .inr (mul6 h))]; exact hone j hj
          · rw [z1d hle rfl (.inr (mul6 (by omega)))]; exact hsame j (by omega) hj
          · have hnb' : n ≠ b := fun e => hnb j hj (e ▸ hn)
            rw [get_put, if_neg hnb', hk5.keep n (hSn n (hfs.sub j n hj hn)) (fun hq => by have := hfs.one i j n hlt hj hq hn; omega)]; exact hkeep j n (by omega) hj hn
          · exact (hk'.trans (hk5.sub fun n _ hn => hfs.sub i n hlt hn)).put (.inl hSb) (hk5.wf _ _ gb5) _
        · repeat' (first | refine EvC.seq ?_ | refine EvC.scope ?_ | refine EvC.block ?_ | (refine EvC.skip ?_) | (refine EvC.exit ?_; try simp only [sB, reduceCtorEq]) | (refine EvC.ret ?_; try simp only [z01, z00]) | (refine EvC.reg ?_; simp (config := { maxSteps := 2000000 }) (disch := first | omega | rfl) only [sB, Nat.reduceEqDiff, reduceCtorEq, ln24, t0, t8, decn hlt]) | (refine EvC.condT ?_ ?_; simp (config := { maxSteps := 2000000 }) (disch := first | omega | rfl) only [sB, Nat.reduceEqDiff]; refine z03 ?_) | (refine EvC.condF ?_ ?_; simp (config := { maxSteps := 2000000 }) (disch := first | omega | rfl) only [sB, Nat.reduceEqDiff]; refine z03 ?_))
          exact ⟨_, _, _, rfl, (by simp only [sG, reduceCtorEq, t0] <;> rfl), (by simp only [sG, Nat.reduceEqDiff, t1] <;> rfl), (by simp only [sG, Nat.reduceEqDiff, t2] <;> rfl), (by simp only [sG, Nat.reduceEqDiff, t7] <;> rfl), .inr ⟨b, cells', c, rfl, gb', hcl', z3a _ hcl' hone, .inl hSb⟩, hk'⟩
      · exact ⟨_, _, 0, cells, rfl, rfl, by omega, (by simp only [sG, reduceCtorEq] <;> rfl), (by simp only [sG, Nat.reduceEqDiff, reduceCtorEq] <;> rfl), (by simp only [sG, Nat.reduceEqDiff, reduceCtorEq] <;> rfl), (by simp only [sG, Nat.reduceEqDiff, reduceCtorEq] <;> rfl), (by simp only [sB, Nat.reduceEqDiff, reduceCtorEq] <;> rfl), gb, hcl, fun j hj => by rw [hfs.el j _ (List.getElem?_eq_getElem hj)]; exact six_ones, fun _ _ _ => rfl, fun j n _ hj hn => rfl, hx1.hk S⟩
  · rintro st ⟨tm, H', v, rfl, t0, t1, t2, t7, hap, hk'⟩
    (repeat refine EvC.seq ?_); refine EvC.reg ?_; simp (config := { maxSteps := 2000000 }) (disch := first | omega | rfl) only [sA]
    refine EvC.meet (fun st => ∃ tm H', st = ⟨tm, [], H'⟩ ∧ tm.get 1 = some (.slice a' l'.length c') ∧ tm.get 2 = some (.slice a2 l2.length c2) ∧ tm.get 7 = some (.bool (eqL l l2)) ∧ HK S H H') ?_ ?_
    · refine EvC.block (EvC.loop (fun k st => ∃ tm H' i v, st = ⟨tm, [], H'⟩ ∧ k = 5 - i ∧ i ≤ 5 ∧ tm.get 0 = some v ∧ tm.get 1 = some (.slice a' l'.length c') ∧ tm.get 2 = some (.slice a2 l2.length c2) ∧ tm.get 7 = some (.bool (eqL l l2)) ∧ tm.get 9 = some (.int .i64 (i : Nat)) ∧
        ApV S H H' 26 v (l.length + i) ∧ HK S H H') ?_ 5 _ ?_)
      · rintro k st ⟨tm, H', i, v, rfl, rfl, hi, t0, t1, t2, t7, t9, hap, hk'⟩
        by_cases hlt : i < 5
        · have hd : decide ((i : Int) < 5) = true := decide_eq_true (by omega)
          repeat' (first | refine EvC.seq ?_ | refine EvC.scope ?_ | refine EvC.block ?_ | (refine EvC.skip ?_; try simp only [z02]) | (refine EvC.exit ?_) | (refine EvC.ret ?_; try simp only [z01, z00]) | (refine EvC.reg ?_; simp (config := { maxSteps := 2000000 }) (disch := first | omega | rfl) only [sB, Nat.reduceEqDiff, Nat.reduceAdd, Value.cells, one, reduceCtorEq, Nat.reduceLeDiff, layC, bd26, zai, t0, t9, hd]) | (refine EvC.condT ?_ ?_; simp (config := { maxSteps := 2000000 }) (disch := first | omega | rfl) only [sB, Nat.reduceEqDiff]; refine z03 ?_))
          obtain ⟨H6, e6, hx6, g6, hn6, hw6⟩ := new1 hk'.wf (.row (mark6 (-2) ByteArray.empty) 26)
          simp only [e6]
          have hap6 : ApV S H H6 26 v (l.length + i) := by
            rcases hap with h | ⟨b, cells, c, h1, h2, h3⟩
            · exact .inl h
            · exact .inr ⟨b, cells, c, h1, hx6.get hk'.wf h2, h3⟩
          obtain ⟨H7, v7, e7, hap7, hk7⟩ := ApV.push (c1 := 1) ean hap6 (hk'.trans (hx6.hk S)) (row6 g6).2.2.2.2.2.2 rfl rfl (by unfold most; omega)
          repeat' (first | refine EvC.seq ?_ | refine EvC.scope ?_ | refine EvC.block ?_ | (refine EvC.skip ?_) | (refine EvC.exit ?_) | (refine EvC.ret ?_; try simp only [z01, z00]) | (refine EvC.reg ?_; simp (config := { maxSteps := 2000000 }) (disch := first | omega | rfl) only [sB, Nat.reduceEqDiff, reduceCtorEq, t9, z06]) | (refine z0z ?_; simp (config := { maxSteps := 2000000 }) (disch := first | omega | rfl) only [sB, Nat.reduceEqDiff, e7]))
          exact ⟨5 - (i + 1), by omega, _, _, i + 1, v7, rfl, rfl, by omega, (by simp only [sG, reduceCtorEq] <;> rfl), (by simp only [sG, Nat.reduceEqDiff, reduceCtorEq, t1] <;> rfl), (by simp only [sG, Nat.reduceEqDiff, reduceCtorEq, t2] <;> rfl), (by simp only [sG, Nat.reduceEqDiff, reduceCtorEq, t7] <;> rfl), (by simp only [sB, Nat.reduceEqDiff, reduceCtorEq] <;> rfl), by rw [← Nat.add_assoc]; exact hap7, hk7⟩
        · have hd : decide ((i : Int) < 5) = false := decide_eq_false (by omega)
          repeat' (first | refine EvC.seq ?_ | refine EvC.scope ?_ | refine EvC.block ?_ | (refine EvC.skip ?_) | (refine EvC.exit ?_; try simp only [sB, reduceCtorEq]) | (refine EvC.ret ?_; try simp only [z01, z00]) | (refine EvC.reg ?_; simp (config := { maxSteps := 2000000 }) (disch := first | omega | rfl) only [sB, t9, hd]) | (refine EvC.condT ?_ ?_; simp (config := { maxSteps := 2000000 }) (disch := first | omega | rfl) only [sB, Nat.reduceEqDiff]; refine z03 ?_) | (refine EvC.condF ?_ ?_; simp (config := { maxSteps := 2000000 }) (disch := first | omega | rfl) only [sB, Nat.reduceEqDiff]; refine z03 ?_))
          exact ⟨_, _, rfl, (by simp only [sG, Nat.reduceEqDiff, t1] <;> rfl), (by simp only [sG, Nat.reduceEqDiff, t2] <;> rfl), (by simp only [sG, Nat.reduceEqDiff, t7] <;> rfl), hk'⟩
      · exact ⟨_, _, 0, v, rfl, rfl, by omega, (by simp only [sG, reduceCtorEq, t0] <;> rfl), (by simp only [sG, Nat.reduceEqDiff, t1] <;> rfl), (by simp only [sG, Nat.reduceEqDiff, t2] <;> rfl), (by simp only [sG, Nat.reduceEqDiff, t7] <;> rfl), (by simp only [sB] <;> rfl), hap, hk'⟩
    · rintro st ⟨tm, H', rfl, t1, t2, t7, hk'⟩
      obtain ⟨r1, r2⟩ := hst H' hk'
      cases hb : eqL l l2
      · rw [hb] at t7
        repeat' (first | refine EvC.seq ?_ | refine EvC.scope ?_ | refine EvC.block ?_ | (refine EvC.skip ?_) | (refine EvC.exit ?_) | (refine EvC.ret ?_; try simp only [z01, z00]) | (refine EvC.reg ?_; simp (config := { maxSteps := 2000000 }) (disch := first | omega | rfl) only [sB, Nat.reduceEqDiff, t7, Bool.false_eq_true]))
        exact z04 rfl (by simp only [sB, Nat.reduceEqDiff] <;> rfl) ⟨rfl, hk'⟩
      · rw [hb] at t7
        repeat' (first | refine EvC.seq ?_ | refine EvC.scope ?_ | refine EvC.block ?_ | (refine EvC.skip ?_) | (refine EvC.exit ?_) | (refine EvC.ret ?_; try simp only [z01, z00]) | (refine EvC.reg ?_; simp (config := { maxSteps := 2000000 }) (disch := first | omega | rfl) only [sB, Nat.reduceEqDiff, cl42, t1, t2, t7]))
        refine (z7i r1 r2 hk'.wf).mono ?_
        rintro v H9 ⟨rfl, hx9⟩
        repeat' (first | refine EvC.seq ?_ | refine EvC.scope ?_ | refine EvC.block ?_ | (refine EvC.skip ?_) | (refine EvC.exit ?_) | (refine EvC.ret ?_; try simp only [z01, z00]))
        exact z04 rfl (by simp only [sB, Nat.reduceEqDiff] <;> rfl) ⟨by simp, hk'.trans (hx9.hk S)⟩
end Go.Proofs.YtlllbkjiadcloaaDoor.hb
end

-- So12
section
namespace Go.Hb
open Go Go.RowKit
abbrev mns : ByteArray := ⟨#[45]⟩
theorem z31 {P : Program} {H : Heap} {t : TypeId} {x y : Operand} {a b : ByteArray} : dBin P .neq t x y (.string a) (.string b) H = some (.val (.bool (!(a.data.toList == b.data.toList))) H) := by
  rw [z1g, z1c, z1c]
theorem ze6 {s : ByteArray} (h : s = mns) : (s.data.toList == (⟨#[45]⟩ : ByteArray).data.toList) = true := by rw [h]; exact beq_self_eq_true _
theorem zl1 {s : ByteArray} (h : s ≠ mns) : (s.data.toList == (⟨#[45]⟩ : ByteArray).data.toList) = false := by
  rw [beq_eq_false_iff_ne]
  intro q
  exact h (by cases s with | mk d => cases d with | mk l => have q' : l = [45] := q; rw [q'])
def isPair (t : Tm) : Prop := t.kind = 5 ∧ t.name = mns ∧ t.args.length = 2
end Go.Hb
namespace Go.Proofs.YtlllbkjiadcloaaDoor.hb
open Go Go.RowKit Go.Hb
variable {ok : Ok}
set_option maxRecDepth 10000
attribute [local irreducible] LX LG EL STG SOP SGO SGD SAL SRD SEF SEG SLK SCK ES
def KeySO (l m : List Tm) : Prop := ((chkL l = 0 ∧ ∀ t ∈ l, isPair t) ∧ Srtd keyT l m) ∨ (¬ (chkL l = 0 ∧ ∀ t ∈ l, isPair t) ∧ m = [])
theorem KeySO.one {l m m' : List Tm} (h : KeySO l m) (h' : KeySO l m') : m = m' := by
  rcases h with ⟨h0, h1⟩ | ⟨h0, h1⟩
  · rcases h' with ⟨-, h2⟩ | ⟨h3, -⟩
    · exact h1.one (fun t ht => z39 (h0.2 t ht).2.2 (z1q.1 (z1v h0.1 t ht)).2) h2
    · exact absurd h0 h3
  · rcases h' with ⟨h3, -⟩ | ⟨-, h2⟩
    · exact absurd h3 h0
    · rw [h1, h2]
theorem KeySO.mem {l m : List Tm} (h : KeySO l m) {t : Tm} (ht : t ∈ m) : chkL l = 0 ∧ t ∈ l := by
  rcases h with ⟨h0, h1⟩ | ⟨h0, rfl⟩
  · exact ⟨h0.1, h1.mem ht⟩
  · cases ht
theorem KeySO.len {l m : List Tm} (h : KeySO l m) : m.length ≤ l.length := by
  rcases h with ⟨h0, h1⟩ | ⟨h0, rfl⟩
  · rw [h1.len]; exact Nat.le_refl _
  · exact Nat.zero_le _
noncomputable def keyE (l : List Tm) : Int := if chkL l = 0 then (if @decide (∀ t ∈ l, isPair t) (Classical.propDecidable _) = true then 0 else 25) else chkL l
theorem zl2 {l : List Tm} (h0 : chkL l = 0) (h : ∀ t ∈ l, isPair t) : keyE l = 0 := by
  unfold keyE; rw [if_pos h0, if_pos (@decide_eq_true _ (Classical.propDecidable _) h)]
theorem ze7 {l : List Tm} (h0 : chkL l = 0) (h : ¬ ∀ t ∈ l, isPair t) : keyE l = 25 := by
  unfold keyE; rw [if_pos h0, if_neg]; rw [@decide_eq_false _ (Classical.propDecidable _) h]; exact Bool.false_ne_true
theorem zl3 {l : List Tm} (h0 : chkL l ≠ 0) : keyE l = chkL l := by unfold keyE; rw [if_neg h0]
set_option maxHeartbeats 8000000 in
theorem z8d {l : List Tm} {a : Option Addr} {c : Nat} {cells : Nat → List Value} {H : Heap} (rl : RepL H l a c cells) (hl : l.length ≤ most) (hw : H.wf) :
    EvF Tryd.prog okT 41 [.slice a l.length c] H fun v H' => HX H H' ∧ ∃ m a' c', v = .tuple #[.slice a' m.length c', .int .i64 (keyE l)] ∧ FL H' 26 (Rg H.next H'.next) m a' c' ∧ KeySO l m := by
  have hmx := rl.max
  refine EvF.enter rfl Tryd.func41 (by decide) rfl ?_
  repeat' (first | refine EvC.seq ?_ | refine EvC.scope ?_ | refine EvC.block ?_ | (refine EvC.skip ?_) | (refine EvC.exit ?_) | (refine EvC.ret ?_; try simp only [z01, z00]) | (refine EvC.reg ?_; simp (config := { maxSteps := 2000000 }) (disch := first | omega | rfl) only [sB, initTm, Nat.reduceEqDiff, reduceCtorEq, cl52]))
  refine (zbf rl hw).mono ?_
  rintro v H1 ⟨rfl, hx1⟩
  have nn1 := hx1.next
  by_cases h0 : chkL l = 0
  rotate_left
  · repeat' (first | refine EvC.seq ?_ | refine EvC.scope ?_ | refine EvC.block ?_ | (refine EvC.skip ?_) | (refine EvC.exit ?_) | (refine EvC.ret ?_; try simp only [z01, z00]) | (refine EvC.reg ?_; simp (config := { maxSteps := 2000000 }) (disch := first | omega | rfl) only [sB, Nat.reduceEqDiff, reduceCtorEq, z2x h0]) | (refine EvC.condT ?_ ?_; simp (config := { maxSteps := 2000000 }) (disch := first | omega | rfl) only [sB, Nat.reduceEqDiff, reduceCtorEq]; refine z03 ?_))
    exact z0p rfl (by simp only [sB, Nat.reduceEqDiff, reduceCtorEq] <;> rfl) (by simp only [sB, Nat.reduceEqDiff, reduceCtorEq] <;> rfl) ⟨hx1, [], none, 0, by rw [zl3 h0]; rfl, .nil _, .inr ⟨fun h => h0 h.1, rfl⟩⟩
  have hfine : ∀ t ∈ l, Fine t := fun t ht => (z1q.1 (z1v h0 t ht)).2
  try simp (config := { maxSteps := 2000000 }) (disch := first | omega | rfl) only []
  (repeat refine EvC.seq ?_); refine EvC.reg ?_; simp (config := { maxSteps := 2000000 }) (disch := first | omega | rfl) only [sB, Nat.reduceEqDiff, reduceCtorEq, z10 h0]
  (repeat refine EvC.seq ?_); refine EvC.condF (by simp (config := { maxSteps := 2000000 }) (disch := first | omega | rfl) only [sB, Nat.reduceEqDiff, reduceCtorEq]) ?_; (try refine EvC.skip ?_); (try simp only [z02, z0a])
  (repeat refine EvC.seq ?_); refine EvC.reg ?_; simp (config := { maxSteps := 2000000 }) (disch := first | omega | rfl) only [sB, Nat.reduceEqDiff, reduceCtorEq, ln24]
  refine EvC.join (fun st => ∃ tm H', st = ⟨tm, [], H'⟩ ∧ tm.get 0 = some (.slice a l.length c) ∧ (∀ t ∈ l, isPair t) ∧ HX H H') ?_ ?_
  · refine EvC.block (EvC.loop (fun k st => ∃ tm H' i, st = ⟨tm, [], H'⟩ ∧ k = l.length - i ∧ i ≤ l.length ∧ tm.get 0 = some (.slice a l.length c) ∧ tm.get 13 = some (.slice a l.length c) ∧ tm.get 14 = some (.int .i64 l.length) ∧ tm.get 15 = some (.int .i64 (i : Nat)) ∧ (∀ t ∈ l.take i, isPair t) ∧ HX H H') ?_ l.length _ ?_)
    · rintro k st ⟨tm, H', i, rfl, rfl, hi, t0, t13, t14, t15, hp, hx⟩
      by_cases hlt : i < l.length
      rotate_left
      · repeat' (first | refine EvC.seq ?_ | refine EvC.scope ?_ | refine EvC.block ?_ | (refine EvC.skip ?_) | (refine EvC.exit ?_; try simp only [sB]) | (refine EvC.ret ?_; try simp only [z01, z00]) | (refine EvC.reg ?_; simp (config := { maxSteps := 2000000 }) (disch := first | omega | rfl) only [sA, t14, t15, decn hlt]) | (refine EvC.condT ?_ ?_; simp (config := { maxSteps := 2000000 }) (disch := first | omega | rfl) only [sB]; refine z03 ?_) | (refine EvC.condF ?_ ?_; simp (config := { maxSteps := 2000000 }) (disch := first | omega | rfl) only [sB]; refine z03 ?_))
        exact ⟨_, _, rfl, (by simp only [sG, reduceCtorEq, t0] <;> rfl), by rw [List.take_of_length_le (by omega)] at hp; exact hp, hx⟩
      obtain ⟨b, o, a1, c1, rfl, hld, hr1⟩ := rl.el hlt
      have hld1 := hx.load hw hld
      repeat' (first | refine EvC.seq ?_ | refine EvC.scope ?_ | refine EvC.block ?_ | (refine EvC.skip ?_; try simp only [z02]) | (refine EvC.exit ?_) | (refine EvC.ret ?_; try simp only [z01, z00]) | (refine EvC.reg ?_; simp (config := { maxSteps := 2000000 }) (disch := first | omega | rfl) only [sB, dAlloc, Nat.reduceEqDiff, Nat.reduceAdd, one, cutC, ia24, ld26, zr26, st26, z0w, ld3, t13, t14, t15, decl hlt, hld1]) | (refine EvC.condT ?_ ?_; simp (config := { maxSteps := 2000000 }) (disch := first | omega | rfl) only [sB]; refine z03 ?_))
      obtain ⟨H4, e4, hx4, g4, hn4, hw4⟩ := zh8 hx.wf (.row zero6 26) (.row (six l[i] a1 c1) 26)
      simp only [e4]
      clear e4
      have q4 := row6 g4
      have hno : ¬ isPair l[i] → ¬ ∀ t ∈ l, isPair t := fun h1 h2 => h1 (h2 _ (List.getElem_mem hlt))
      by_cases k5 : l[i].kind = 5
      rotate_left
      · have hc := hno fun h => k5 h.1
        repeat' (first | refine EvC.seq ?_ | refine EvC.scope ?_ | refine EvC.block ?_ | (refine EvC.skip ?_) | (refine EvC.exit ?_) | (refine EvC.ret ?_; try simp only [z01, z00]) | (refine EvC.reg ?_; simp (config := { maxSteps := 2000000 }) (disch := first | omega | rfl) only [sA]) | (refine zim ?_; simp (config := { maxSteps := 2000000 }) (disch := first | omega | rfl) only [sB, Nat.reduceEqDiff, z2x k5]) | (refine EvC.condT ?_ ?_; simp (config := { maxSteps := 2000000 }) (disch := first | omega | rfl) only [sB, Nat.reduceEqDiff]; refine z03 ?_))
        exact z0p rfl (by simp only [sB, Nat.reduceEqDiff] <;> rfl) (by simp only [sB, Nat.reduceEqDiff] <;> rfl) ⟨hx.trans hx4, [], none, 0, by rw [ze7 h0 hc]; rfl, .nil _, .inr ⟨fun h => hc h.2, rfl⟩⟩
      by_cases kn : l[i].name = mns
      rotate_left
      · have hc := hno fun h => kn h.2.1
        repeat' (first | refine EvC.seq ?_ | refine EvC.scope ?_ | refine EvC.block ?_ | (refine EvC.skip ?_) | (refine EvC.exit ?_) | (refine EvC.ret ?_; try simp only [z01, z00]) | (refine EvC.reg ?_; simp (config := { maxSteps := 2000000 }) (disch := first | omega | rfl) only [sA]) | (refine zim ?_; simp (config := { maxSteps := 2000000 }) (disch := first | omega | rfl) only [sB, Nat.reduceEqDiff, z2j, ld9, q4, z10 k5, z31, zl1 kn, Bool.not_false, Bool.false_eq_true]) | (refine EvC.condT ?_ ?_; simp (config := { maxSteps := 2000000 }) (disch := first | omega | rfl) only [sB, Nat.reduceEqDiff]; refine z03 ?_))
        exact z0p rfl (by simp only [sB, Nat.reduceEqDiff] <;> rfl) (by simp only [sB, Nat.reduceEqDiff] <;> rfl) ⟨hx.trans hx4, [], none, 0, by rw [ze7 h0 hc]; rfl, .nil _, .inr ⟨fun h => hc h.2, rfl⟩⟩
      by_cases k2 : l[i].args.length = 2
      rotate_left
      · have hc := hno fun h => k2 h.2.2
        have k2' : (l[i].args.length : Int) ≠ 2 := by omega
        repeat' (first | refine EvC.seq ?_ | refine EvC.scope ?_ | refine EvC.block ?_ | (refine EvC.skip ?_) | (refine EvC.exit ?_) | (refine EvC.ret ?_; try simp only [z01, z00]) | (refine EvC.reg ?_; simp (config := { maxSteps := 2000000 }) (disch := first | omega | rfl) only [sA]) | (refine zim ?_; simp (config := { maxSteps := 2000000 }) (disch := first | omega | rfl) only [sB, Nat.reduceEqDiff, ln24, z2j, ld9, z0r, ld24, q4, z10 k5, z31, ze6 kn, Bool.not_true, z2x k2', Bool.false_eq_true]) | (refine EvC.condT ?_ ?_; simp (config := { maxSteps := 2000000 }) (disch := first | omega | rfl) only [sB, Nat.reduceEqDiff]; refine z03 ?_))
        exact z0p rfl (by simp only [sB, Nat.reduceEqDiff] <;> rfl) (by simp only [sB, Nat.reduceEqDiff] <;> rfl) ⟨hx.trans hx4, [], none, 0, by rw [ze7 h0 hc]; rfl, .nil _, .inr ⟨fun h => hc h.2, rfl⟩⟩
      have k2' : (l[i].args.length : Int) = 2 := by omega
      repeat' (first | refine EvC.seq ?_ | refine EvC.scope ?_ | refine EvC.block ?_ | (refine EvC.skip ?_; try simp only [sA]) | (refine EvC.exit ?_) | (refine EvC.ret ?_; try simp only [z01, z00]) | (refine EvC.reg ?_; simp (config := { maxSteps := 2000000 }) (disch := first | omega | rfl) only [sB, Nat.reduceEqDiff, t15, z06]) | (refine zim ?_; simp (config := { maxSteps := 2000000 }) (disch := first | omega | rfl) only [sB, Nat.reduceEqDiff, ln24, z2j, ld9, z0r, ld24, q4, z10 k5, z31, ze6 kn, Bool.not_true, z10 k2', Bool.false_eq_true]) | (refine EvC.condT ?_ ?_; simp (config := { maxSteps := 2000000 }) (disch := first | omega | rfl) only [sB, Nat.reduceEqDiff]; refine z03 ?_) | (refine EvC.condF ?_ ?_; simp (config := { maxSteps := 2000000 }) (disch := first | omega | rfl) only [sB, Nat.reduceEqDiff]; refine z03 ?_))
      refine ⟨l.length - (i + 1), by omega, _, _, i + 1, rfl, rfl, by omega, (by simp only [sG, reduceCtorEq, t0] <;> rfl), (by simp only [sG, Nat.reduceEqDiff, t13] <;> rfl), (by simp only [sG, Nat.reduceEqDiff, t14] <;> rfl), (by simp only [sB, Nat.reduceEqDiff] <;> rfl), fun t ht => ?_, hx.trans hx4⟩
      rw [← List.take_append_getElem hlt] at ht
      rcases List.mem_append.1 ht with h | h
      · exact hp t h
      · rw [List.mem_singleton.1 h]; exact ⟨k5, kn, k2⟩
    · exact ⟨_, _, 0, rfl, rfl, Nat.zero_le _, (by simp only [sG, reduceCtorEq] <;> rfl), (by simp only [sG, Nat.reduceEqDiff, reduceCtorEq] <;> rfl), (by simp only [sG, Nat.reduceEqDiff, reduceCtorEq] <;> rfl), (by simp only [sB, Nat.reduceEqDiff, reduceCtorEq] <;> rfl), fun t ht => by simp at ht, hx1⟩
  rintro st ⟨tm, H1, rfl, t0, hpr, hx1⟩
  have nn1 := hx1.next
  try simp (config := { maxSteps := 2000000 }) (disch := first | omega | rfl) only [z02]
  repeat' (first | refine EvC.seq ?_ | refine EvC.scope ?_ | refine EvC.block ?_ | (refine EvC.skip ?_) | (refine EvC.exit ?_) | (refine EvC.ret ?_; try simp only [z01, z00]) | (refine EvC.reg ?_; simp (config := { maxSteps := 2000000 }) (disch := first | omega | rfl) only [sB, Nat.reduceEqDiff, cl75, t0]))
  refine (zhu (rl.mono hx1 hw) hfine hl hx1.wf).mono ?_
  rintro v H2 ⟨cells', Si, ai, ci, rfl, g2, hlen, hfl, hx2⟩
  obtain ⟨hr, hO, hrow⟩ := OwnD.made hfl g2 hlen zT0
  have nn2 := hx2.next
  have lt2 := hx2.wf _ _ g2
  have hSb : ¬ Rg (H1.next + 1) H2.next H1.next := fun h => by have := h.1; omega
  generalize hD : (fun k => (⟨l.getD k zT0, ai k, ci k, Si k⟩ : El)) = D at hr hO hrow
  have hDt : ∀ k, k < l.length → (D k).t ∈ l := fun k hk => by
    rw [← hD]; simp only []
    rw [List.getD, List.getElem?_eq_getElem hk]; exact List.getElem_mem _
  have hG : ∀ k, k < l.length → (fun e => ∃ k, k < l.length ∧ D k = e) (D k) := fun k hk => ⟨k, hk, rfl⟩
  repeat' (first | refine EvC.seq ?_ | refine EvC.scope ?_ | refine EvC.block ?_ | (refine EvC.skip ?_) | (refine EvC.exit ?_) | (refine EvC.ret ?_; try simp only [z01, z00]) | (refine EvC.reg ?_; simp (config := { maxSteps := 2000000 }) (disch := first | omega | rfl) only [sB, Nat.reduceEqDiff, cl76]))
  refine (z50 hl (zfa hO hSb (fun k hk => hfine _ (hDt k hk)) (fun k hk => (hpr _ (hDt k hk)).2.2) hx2.wf) hr hG hx2.wf).mono ?_
  rintro v H3 ⟨D', hr3, hm, ho, hk3⟩
  have hO3 := (hO.mv hm).heap (H' := H3) (fun m hm hl => hk3.keep m hl fun e => hSb (e ▸ hm)) hx2.wf
  have hs : Srtd keyT l ((rowF l.length D').map El.t) := Srtd.rows hrow hG hm ho
  have hx12 := hx1.trans hx2
  have hx3 : HX H H3 := hx12.then hk3 fun n hn e => by omega
  have nn3 := hk3.next
  have hmax : l.length ≤ maxLen := Nat.le_trans hl (by simp [most, maxLen])
  repeat' (first | refine EvC.seq ?_ | refine EvC.scope ?_ | refine EvC.block ?_ | (refine EvC.skip ?_) | (refine EvC.exit ?_) | (refine EvC.ret ?_; try simp only [z01, z00]) | (refine EvC.reg ?_; simp (config := { maxSteps := 2000000 }) (disch := first | omega | rfl) only [sB, Nat.reduceEqDiff]))
  have hll : ((rowF l.length D').map El.t).length = l.length := by rw [List.length_map, z0x]
  exact z0p rfl (by simp only [sB, Nat.reduceEqDiff] <;> rfl) (by simp only [sB, Nat.reduceEqDiff] <;> rfl) ⟨hx3, (rowF l.length D').map El.t, some ⟨H1.next, 0, none⟩, l.length, by rw [hll, zl2 h0 hpr], hO3.list hr3 (Nat.le_refl _) hmax ⟨nn1, by omega⟩ (fun m hm => ⟨by have := hm.1; omega, by have := hm.2; omega⟩) hSb, .inl ⟨⟨h0, hpr⟩, hs⟩⟩
end Go.Proofs.YtlllbkjiadcloaaDoor.hb
end

-- So13
section
namespace Go.Hb
open Go Go.RowKit
structure Rowed (H : Heap) (T : TypeId) (base : Nat) (m : List Tm) (a : Option Addr) (c : Nat) (L : List (List Value)) : Prop where
  row : RepO H T 6 base L (.slice a m.length c)
  len : L.length = m.length
theorem Rowed.repL {H H0 : Heap} {T : TypeId} {base : Nat} {m : List Tm} {a : Option Addr} {c : Nat} {L : List (List Value)} (h : Rowed H T base m a c L) (hr : ∀ (i : Nat) t, m[i]? = some t → ∃ cs, L[i]? = some cs ∧ RepT H0 t cs) (hx : HX H0 H) (hw : H0.wf) : RepL H m a c (fun i => L.getD i []) := by
  have hrep : ∀ (i : Nat) t, m[i]? = some t → RepT H t (L.getD i []) := fun i t ht => by
    obtain ⟨cs, h1, h2⟩ := hr i t ht
    rw [List.getD, h1]; exact h2.mono hx hw
  rcases h.row with ⟨rfl, h2⟩ | ⟨b, c', h1, h2⟩
  · injection h2 with e1 e2 e3
    subst e1 e3
    have : m = [] := List.length_eq_zero_iff.1 e2
    subst this
    exact ⟨Nat.le_refl _, Nat.zero_le _, fun _ => ⟨rfl, rfl⟩, fun i ad hi => by simp at hi, hrep⟩
  · injection h2 with e1 e2 e3
    subst e1 e3
    refine ⟨by rw [← h.len]; exact h1.len, h1.cap, fun e => (by cases e), fun i ad hi e => ?_, hrep⟩
    cases e
    have hi' : i < L.length := by rw [h.len]; exact hi
    refine ⟨rfl, ?_⟩
    have e9 : L.getD i [] = L[i] := by simp [List.getD, List.getElem?_eq_getElem hi']
    rw [e9]
    have := h1.load (List.getElem?_eq_getElem hi')
    simpa using this
theorem z9h {H : Heap} {b o j n m : Nat} {l : List Value} (h : H.load ⟨b, o, none⟩ m = some l) (hj : j + n ≤ m) : H.load ⟨b, o + j, none⟩ n = some ((l.drop j).take n) := by
  have hl := zdh h
  unfold Heap.load at h ⊢
  simp only at h ⊢
  cases hc : H.cells b with
  | none => rw [hc] at h; cases h
  | some cs =>
    rw [hc] at h
    simp only at h ⊢
    split at h
    · rename_i hb
      cases h
      have e1 : (((cs.drop o).take m).drop j).take n = (cs.drop (o + j)).take n := by
        rw [List.drop_take, List.take_take, List.drop_drop, Nat.min_eq_left (by omega)]
      rw [e1, if_pos]
      rw [← e1, Nat.beq_eq]
      simp only [List.length_take, List.length_drop] at hl ⊢
      omega
    · cases h
end Go.Hb
namespace Go.Proofs.YtlllbkjiadcloaaDoor.hb
open Go Go.RowKit Go.Hb
variable {ok : Ok}
set_option maxRecDepth 10000
attribute [local irreducible] LX LG EL STG SOP SGO SGD SAL SRD SEF SEG SLK SCK ES
set_option maxHeartbeats 8000000 in
theorem zjt {l : List Tm} {a : Option Addr} {c : Nat} {cells : Nat → List Value} {H : Heap} {once : Bool} (rl : RepL H l a c cells) (h0 : chkL l = 0) (hl : l.length ≤ most) (hw : H.wf) :
    EvF Tryd.prog okT 38 [.slice a l.length c, .bool once] H fun v H' => HX H H' ∧ ∃ m a' c' L, v = .slice a' m.length c' ∧ SortO once l m ∧ Rowed H' 26 H.next m a' c' L ∧ ∀ (i : Nat) t, m[i]? = some t → ∃ cs, L[i]? = some cs ∧ RepT H t cs := by
  have hms : most ≤ 1048576 := by simp [most]
  have ean : apOk Tryd.prog 24 26 6 := ap24
  have hfine : ∀ t ∈ l, Fine t := fun t ht => (z1q.1 (z1v h0 t ht)).2
  have hmap : l.map (fun t => t) = l := List.map_id' l
  refine EvF.enter rfl Tryd.func38 (by decide) rfl ?_
  repeat' (first | refine EvC.seq ?_ | refine EvC.scope ?_ | refine EvC.block ?_ | (refine EvC.skip ?_) | (refine EvC.exit ?_) | (refine EvC.ret ?_; try simp only [z01, z00]) | (refine EvC.reg ?_; simp (config := { maxSteps := 2000000 }) (disch := first | omega | rfl) only [sB, initTm, Nat.reduceEqDiff, reduceCtorEq, cl74]))
  refine (z8c (key := fun t => t) rl (by rw [hmap]; exact rl) hfine hl hw).mono ?_
  rintro v H1 ⟨hx1, E, a1, c1, hE, rfl, ho1⟩
  have hs := Ins.srtd (key := fun t => t) (l := l) hE
  have hEl := hE.len
  have hrep : ∀ (i : Nat) t, (E.map fun i => l.getD i zT0)[i]? = some t → ∃ cs, (E.map cells)[i]? = some cs ∧ RepT H t cs := fun i t ht => by
    rw [List.getElem?_map] at ht
    obtain ⟨j, hj, e⟩ := Option.map_eq_some_iff.1 ht
    refine ⟨cells j, by rw [List.getElem?_map, hj]; rfl, rl.rep j t ?_⟩
    have hjl : j < l.length := hE.mem (List.mem_of_getElem? hj)
    rw [← e, List.getD, List.getElem?_eq_getElem hjl]; rfl
  cases once with
  | false =>
    repeat' (first | refine EvC.seq ?_ | refine EvC.scope ?_ | refine EvC.block ?_ | (refine EvC.skip ?_) | (refine EvC.exit ?_) | (refine EvC.ret ?_; try simp only [z01, z00]) | (refine EvC.reg ?_; simp (config := { maxSteps := 2000000 }) (disch := first | omega | rfl) only [sB, Nat.reduceEqDiff, reduceCtorEq, Bool.not_false]) | (refine EvC.condT ?_ ?_; simp (config := { maxSteps := 2000000 }) (disch := first | omega | rfl) only [sB, Nat.reduceEqDiff, reduceCtorEq]; refine z03 ?_))
    exact z04 rfl (by simp only [sB, Nat.reduceEqDiff, reduceCtorEq] <;> rfl) ⟨hx1, E.map fun i => l.getD i zT0, a1, c1, E.map cells, by rw [List.length_map], by unfold SortO; rw [if_pos h0]; exact ⟨_, hs, rfl⟩, ⟨by rw [List.length_map]; exact ho1, by rw [List.length_map, List.length_map]⟩, hrep⟩
  | true =>
    try simp (config := { maxSteps := 2000000 }) (disch := first | omega | rfl) only []
    (repeat refine EvC.seq ?_); refine EvC.reg ?_; simp (config := { maxSteps := 2000000 }) (disch := first | omega | rfl) only [sB, Nat.reduceEqDiff, reduceCtorEq, Bool.not_true]
    (repeat refine EvC.seq ?_); refine EvC.condF (by simp (config := { maxSteps := 2000000 }) (disch := first | omega | rfl) only [sB, Nat.reduceEqDiff, reduceCtorEq]) ?_; (try refine EvC.skip ?_); (try simp only [z02, z0a])
    (repeat refine EvC.seq ?_); refine EvC.reg ?_; simp (config := { maxSteps := 2000000 }) (disch := first | omega | rfl) only [sA]
    (repeat refine EvC.seq ?_); refine EvC.reg ?_; simp (config := { maxSteps := 2000000 }) (disch := first | omega | rfl) only [sA]
    have hw1 := hx1.wf
    obtain ⟨D, hD⟩ : ∃ D : Nat → Tm, D = fun j => (E.map fun i => l.getD i zT0).getD j zT0 := ⟨_, rfl⟩
    obtain ⟨C, hC⟩ : ∃ C : Nat → List Value, C = fun j => (E.map cells).getD j [] := ⟨_, rfl⟩
    have hDC : ∀ j, j < E.length → RepT H (D j) (C j) ∧ Fine (D j) ∧ (E.map cells)[j]? = some (C j) := fun j hj => by
      have hjl : E[j] < l.length := hE.mem (List.getElem_mem hj)
      have e1 : D j = l[E[j]] := by rw [hD]; simp [List.getD, List.getElem?_eq_getElem hj, List.getElem?_eq_getElem hjl]
      have e2 : C j = cells E[j] := by rw [hC]; simp [List.getD, List.getElem?_eq_getElem hj]
      rw [e1, e2]
      exact ⟨rl.rep _ _ (List.getElem?_eq_getElem hjl), hfine _ (List.getElem_mem hjl), by rw [List.getElem?_map, List.getElem?_eq_getElem hj]; rfl⟩
    obtain ⟨eqf, heq⟩ : ∃ eqf : Tm → Tm → Bool, eqf = fun x y => ordT x y == 0 := ⟨_, rfl⟩
    refine EvC.meet (fun st => ∃ tm H' F a2 c2, st = ⟨tm, [], H'⟩ ∧ F = (List.range E.length).filter (kpF eqf D) ∧ tm.get 6 = some (.slice a2 F.length c2) ∧ RepO H' 26 6 H1.next (F.map C) (.slice a2 F.length c2) ∧ HX H1 H') ?_ ?_
    rotate_left
    · rintro st ⟨tm, H', F, a2, c2, rfl, hF, t6, ho2, hx2⟩
      try simp (config := { maxSteps := 2000000 }) (disch := first | omega | rfl) only [z02]
      repeat' (first | refine EvC.seq ?_ | refine EvC.scope ?_ | refine EvC.block ?_ | (refine EvC.skip ?_) | (refine EvC.exit ?_) | (refine EvC.ret ?_; try simp only [z01, z00]) | (refine EvC.reg ?_; simp (config := { maxSteps := 2000000 }) (disch := first | omega | rfl) only [sB, t6]))
      have eF : F.map D = onceL (E.map fun i => l.getD i zT0) := by
        unfold onceL ddF
        rw [hF, heq, hD, List.length_map]
      refine z04 rfl (by simp only [sB, Nat.reduceEqDiff] <;> rfl) ⟨hx1.trans hx2, F.map D, a2, c2, F.map C, by rw [List.length_map], by unfold SortO; rw [if_pos h0]; exact ⟨_, hs, by rw [if_pos rfl, eF]⟩, ⟨by rw [List.length_map]; exact ho2.low hx1.next, by rw [List.length_map, List.length_map]⟩, fun i t ht => ?_⟩
      rw [List.getElem?_map] at ht
      obtain ⟨j, hj, rfl⟩ := Option.map_eq_some_iff.1 ht
      refine ⟨C j, by rw [List.getElem?_map, hj]; rfl, (hDC j ?_).1⟩
      have := List.mem_of_getElem? hj
      rw [hF] at this
      exact List.mem_range.1 (List.mem_filter.1 this).1
    refine EvC.block (EvC.loop (fun m st => ∃ tm H' i F a2 c2, st = ⟨tm, [], H'⟩ ∧ m = E.length - i ∧ i ≤ E.length ∧ F = (List.range i).filter (kpF eqf D) ∧ tm.get 5 = some (.slice a1 E.length c1) ∧ tm.get 6 = some (.slice a2 F.length c2) ∧ tm.get 7 = some (.int .i64 (i : Nat)) ∧
      RepO H' 26 6 H1.next (F.map C) (.slice a2 F.length c2) ∧ HX H1 H') ?_ E.length _ ?_)
    rotate_left
    · exact ⟨_, _, 0, [], none, 0, rfl, rfl, Nat.zero_le _, rfl, (by simp only [sG, Nat.reduceEqDiff, reduceCtorEq] <;> rfl), (by simp only [sB, Nat.reduceEqDiff, reduceCtorEq] <;> rfl), (by simp only [sB, Nat.reduceEqDiff, reduceCtorEq] <;> rfl), .inl ⟨rfl, rfl⟩, HX.refl hw1⟩
    rintro m st ⟨tm, H', i, F, a2, c2, rfl, rfl, hi, hF, t5, t6, t7, ho2, hx2⟩
    by_cases hlt : i < E.length
    rotate_left
    · obtain rfl : i = E.length := by omega
      repeat' (first | refine EvC.seq ?_ | refine EvC.scope ?_ | refine EvC.block ?_ | (refine EvC.skip ?_) | (refine EvC.exit ?_; try simp only [sB, reduceCtorEq]) | (refine EvC.ret ?_; try simp only [z01, z00]) | (refine EvC.reg ?_; simp (config := { maxSteps := 2000000 }) (disch := first | omega | rfl) only [sB, Nat.reduceEqDiff, ln24, t5, t7, decn hlt]) | (refine EvC.condT ?_ ?_; simp (config := { maxSteps := 2000000 }) (disch := first | omega | rfl) only [sB, Nat.reduceEqDiff]; refine z03 ?_) | (refine EvC.condF ?_ ?_; simp (config := { maxSteps := 2000000 }) (disch := first | omega | rfl) only [sB, Nat.reduceEqDiff]; refine z03 ?_))
      exact ⟨_, _, F, a2, c2, rfl, hF, (by simp only [sG, Nat.reduceEqDiff, t6] <;> rfl), ho2, hx2⟩
    have hne : E.map cells ≠ [] := fun e => by have := congrArg List.length e; rw [List.length_map, List.length_nil] at this; omega
    obtain ⟨b1, cc1, o1, eo⟩ := ho1.own hne
    obtain ⟨rfl, rfl⟩ : a1 = some ⟨b1, 0, none⟩ ∧ c1 = cc1 := by injection eo with q1 q2 q3; exact ⟨q1, q3⟩
    have cel : ∀ j, j < E.length → ∃ x y, C j = six (D j) x y := fun j hj => by
      obtain ⟨x, y, -, e6, -⟩ := (hDC j hj).1.six
      exact ⟨x, y, e6⟩
    obtain ⟨x1, y1, e1⟩ := cel i hlt
    have ld1 := hx2.load hw1 (o1.load (hDC i hlt).2.2)
    rw [e1] at ld1
    have hFl : F.length ≤ i := by rw [hF]; exact Nat.le_trans (List.length_filter_le _ _) (by simp)
    (repeat refine EvC.seq ?_); refine EvC.reg ?_; simp (config := { maxSteps := 2000000 }) (disch := first | omega | rfl) only [sB, Nat.reduceEqDiff, ln24, t5, t7, decl hlt]
    (repeat refine EvC.seq ?_); refine EvC.condT (by simp (config := { maxSteps := 2000000 }) (disch := first | omega | rfl) only [sB, Nat.reduceEqDiff]) ?_; (try refine EvC.skip ?_); (try simp only [z02, z0a])
    refine EvC.seq ?_
    refine EvC.block ?_
    refine EvC.seq ?_
    refine EvC.meet (fun st => ∃ tm H', st = ⟨tm, [], H'⟩ ∧ tm.get 34 = some (.bool (kpF eqf D i)) ∧ tm.get 5 = some (.slice (some ⟨b1, 0, none⟩) E.length c1) ∧ tm.get 6 = some (.slice a2 F.length c2) ∧ tm.get 7 = some (.int .i64 (i : Nat)) ∧
      RepO H' 26 6 H1.next (F.map C) (.slice a2 F.length c2) ∧ HX H1 H') ?_ ?_
    · have hb0 := (HX.refl hx2.wf).bump 15
      by_cases hi0 : i = 0
      · have ek : kpF eqf D i = true := by unfold kpF; rw [hi0]; rfl
        rw [ek]
        repeat' (first | refine EvC.seq ?_ | refine EvC.scope ?_ | refine EvC.block ?_ | (refine EvC.skip ?_) | (refine EvC.exit ?_) | (refine EvC.ret ?_; try simp only [z01, z00]) | (refine EvC.drw [([(0, 0), (1, 0), (2, 0), (3, 0), (4, 0), (5, 0), (6, 0), (7, 0), (8, 0), (9, 0), (10, 0), (11, 0)], some 12), ([(13, 1), (14, 1)], none)] ?_ ?_; kernel_rfl; simp (config := { maxSteps := 2000000 }) (disch := first | omega | rfl) only [sD, sB, Nat.reduceEqDiff, Nat.reduceAdd, t7, z19 (show (i : Int) = 0 by omega), isAlloc, isRead]))
        exact ⟨_, _, rfl, (by simp only [sG, Nat.reduceEqDiff] <;> rfl), (by simp only [sG, Nat.reduceEqDiff, t5] <;> rfl), (by simp only [sG, Nat.reduceEqDiff, t6] <;> rfl), (by simp only [sG, Nat.reduceEqDiff, t7] <;> rfl), ho2.keep hb0, hx2.trans hb0⟩
      · have hj : i - 1 < E.length := by omega
        obtain ⟨x2, y2, e2⟩ := cel (i - 1) hj
        have ld2 := hx2.load hw1 (o1.load (hDC (i - 1) hj).2.2)
        rw [e2] at ld2
        have r1 := (hDC i hlt).1
        have r2 := (hDC (i - 1) hj).1
        rw [e1] at r1
        rw [e2] at r2
        have hb := hx2.trans hb0
        have hbH := hx1.trans hb
        repeat' (first | refine EvC.seq ?_ | refine EvC.scope ?_ | refine EvC.block ?_ | (refine EvC.skip ?_) | (refine EvC.exit ?_) | (refine EvC.ret ?_; try simp only [z01, z00]) | (refine EvC.drw [([(0, 0), (1, 0), (2, 0), (3, 0), (4, 0), (5, 0), (6, 0), (7, 0), (8, 0), (9, 0), (10, 0), (11, 0)], some 12), ([(13, 1), (14, 1)], none)] ?_ ?_; kernel_rfl; simp (config := { maxSteps := 2000000 }) (disch := first | omega | rfl) only [sD, sB, Nat.reduceEqDiff, Nat.reduceAdd, reduceCtorEq, ia24, ld26, cl19, t5, t7, z0i (show (i : Int) ≠ 0 by omega), zb4 (i := i) (by omega) (by omega), ld1, ld2, isAlloc, isRead, reduceCtorEq]))
        refine (zbe (Nat.lt_succ_self _) (r1.mono hbH hw) (r2.mono hbH hw) (hDC i hlt).2.1 (hDC (i - 1) hj).2.1 hbH.wf).mono ?_
        rintro v H3 ⟨rfl, hx3⟩
        have ek : kpF eqf D i = (ordT (D i) (D (i - 1)) != 0) := by
          unfold kpF
          rw [show (i == 0) = false by simp; omega, heq]; rfl
        rw [ek]
        repeat' (first | refine EvC.seq ?_ | refine EvC.scope ?_ | refine EvC.block ?_ | (refine EvC.skip ?_) | (refine EvC.exit ?_) | (refine EvC.ret ?_; try simp only [z01, z00]) | (refine z0n ?_; simp (config := { maxSteps := 2000000 }) (disch := first | omega | rfl) only [sD, sB, Nat.reduceEqDiff, reduceCtorEq, isAlloc, isRead, reduceCtorEq]))
        exact ⟨_, _, rfl, (by simp only [sG, Nat.reduceEqDiff] <;> rfl), (by simp only [sG, Nat.reduceEqDiff, t5] <;> rfl), (by simp only [sG, Nat.reduceEqDiff, t6] <;> rfl), (by simp only [sG, Nat.reduceEqDiff, t7] <;> rfl), ho2.keep (hb0.trans hx3), hb.trans hx3⟩
    clear t5 t6 t7 ho2 ld1 hx2
    rintro st ⟨tm, H', rfl, t34, t5, t6, t7, ho2, hx2⟩
    have ld1 := hx2.load hw1 (o1.load (hDC i hlt).2.2)
    rw [e1] at ld1
    have eR : (List.range (i + 1)).filter (kpF eqf D) = F ++ (if kpF eqf D i = true then [i] else []) := by
      rw [List.range_succ, List.filter_append, hF]
      congr 1
      by_cases h : kpF eqf D i = true
      · simp [h]
      · simp [h]
    cases hk : kpF eqf D i
    · rw [hk] at t34 eR
      try simp (config := { maxSteps := 2000000 }) (disch := first | omega | rfl) only [z02]
      repeat' (first | refine EvC.seq ?_ | refine EvC.scope ?_ | refine EvC.block ?_ | (refine EvC.skip ?_; try simp only [sA]) | (refine EvC.exit ?_) | (refine EvC.ret ?_; try simp only [z01, z00]) | (refine EvC.reg ?_; simp (config := { maxSteps := 2000000 }) (disch := first | omega | rfl) only [sB, Nat.reduceEqDiff, t7, z5f (i := i) (by omega)]) | (refine EvC.condT ?_ ?_; simp (config := { maxSteps := 2000000 }) (disch := first | omega | rfl) only [sA, t34]; refine z03 ?_) | (refine EvC.condF ?_ ?_; simp (config := { maxSteps := 2000000 }) (disch := first | omega | rfl) only [sA, t34]; refine z03 ?_))
      exact ⟨E.length - (i + 1), by omega, _, _, i + 1, F, a2, c2, rfl, rfl, by omega, by rw [eR]; simp, (by simp only [sG, Nat.reduceEqDiff, t5] <;> rfl), (by simp only [sG, Nat.reduceEqDiff, t6] <;> rfl), (by simp only [sG, Nat.reduceEqDiff] <;> rfl), ho2, hx2⟩
    · rw [hk] at t34 eR
      obtain ⟨H2, v2, e7, ho3, n3, hk3, -⟩ := ho2.push (y := six (D i) x1 y1) ean rfl rfl (by rw [List.length_map]; omega) hx2.next
      obtain ⟨a3, c3, rfl, -, -⟩ := ho3.slice
      have l3 : ((F.map C) ++ [six (D i) x1 y1]).length = F.length + 1 := by rw [List.length_append, List.length_map]; rfl
      rw [l3] at e7 ho3
      try simp (config := { maxSteps := 2000000 }) (disch := first | omega | rfl) only [z02]
      repeat' (first | refine EvC.seq ?_ | refine EvC.scope ?_ | refine EvC.block ?_ | (refine EvC.skip ?_) | (refine EvC.exit ?_) | (refine EvC.ret ?_; try simp only [z01, z00]) | (refine EvC.reg ?_; simp (config := { maxSteps := 2000000 }) (disch := first | omega | rfl) only [sB, Nat.reduceEqDiff, Nat.reduceAdd, Value.cells, one, layC, ia24, ld26, zai, t5, t6, t7, ld1, e7, z5f (i := i) (by omega)]) | (refine EvC.condT ?_ ?_; simp (config := { maxSteps := 2000000 }) (disch := first | omega | rfl) only [sA, t34]; refine z03 ?_))
      exact ⟨E.length - (i + 1), by omega, _, _, i + 1, F ++ [i], a3, c3, rfl, rfl, by omega, by rw [eR, if_pos rfl], (by simp only [sG, Nat.reduceEqDiff, t5] <;> rfl), by rw [List.length_append]; exact (by simp only [sB, Nat.reduceEqDiff] <;> rfl), (by simp only [sG, Nat.reduceEqDiff] <;> rfl), by rw [List.map_append, List.length_append]; show RepO _ _ _ _ (F.map C ++ [C i]) _; rw [e1]; exact ho3, hk3 _ hx2 (Nat.le_refl _)⟩
set_option maxHeartbeats 8000000 in
theorem zcl {l : List Tm} {a : Option Addr} {c : Nat} {cells : Nat → List Value} {H : Heap} (rl : RepL H l a c cells) (h0 : chkL l = 0) (hl : l.length ≤ most) (hw : H.wf) :
    EvF Tryd.prog okT 39 [.slice a l.length c] H fun v H' => HX H H' ∧ ∃ K ak ck Lk, v = .tuple #[.slice ak K.length ck, .bool (@decide (∀ t ∈ l, isPair t) (Classical.propDecidable _))] ∧ KeySO l K ∧ Rowed H' 26 H.next K ak ck Lk ∧ ∀ A : Heap, RepL A l a c cells → ∀ (i : Nat) t, K[i]? = some t → ∃ cs, Lk[i]? = some cs ∧ RepT A t cs := by
  have hms : most ≤ 1048576 := by simp [most]
  have hmx := rl.max
  have ean : apOk Tryd.prog 24 26 6 := ap24
  have hfine : ∀ t ∈ l, Fine t := fun t ht => (z1q.1 (z1v h0 t ht)).2
  refine EvF.enter rfl Tryd.func39 (by decide) rfl ?_
  (repeat refine EvC.seq ?_); refine EvC.reg ?_; simp (config := { maxSteps := 2000000 }) (disch := first | omega | rfl) only [sA, initTm]
  (repeat refine EvC.seq ?_); refine EvC.reg ?_; simp (config := { maxSteps := 2000000 }) (disch := first | omega | rfl) only [sA]
  (repeat refine EvC.seq ?_); refine EvC.reg ?_; simp (config := { maxSteps := 2000000 }) (disch := first | omega | rfl) only [sA]
  refine EvC.join (fun st => ∃ tm H' ak ck Lk, st = ⟨tm, [], H'⟩ ∧ tm.get 0 = some (.slice a l.length c) ∧ tm.get 4 = some (.slice ak l.length ck) ∧ (∀ t ∈ l, isPair t) ∧ Rowed H' 26 H.next (l.map keyT) ak ck Lk ∧ (∀ (i : Nat) t, (l.map keyT)[i]? = some t → ∃ cs, Lk[i]? = some cs ∧ RepT H t cs) ∧ HX H H') ?_ ?_
  rotate_left
  · rintro st ⟨tm, H', ak, ck, Lk, rfl, t0, t4, hp, rw', sd, hx⟩
    have hd : @decide (∀ t ∈ l, isPair t) (Classical.propDecidable _) = true := @decide_eq_true _ (Classical.propDecidable _) hp
    rw [hd]
    try simp (config := { maxSteps := 2000000 }) (disch := first | omega | rfl) only [z02]
    repeat' (first | refine EvC.seq ?_ | refine EvC.scope ?_ | refine EvC.block ?_ | (refine EvC.skip ?_) | (refine EvC.exit ?_) | (refine EvC.ret ?_; try simp only [z01, z00]) | (refine EvC.reg ?_; simp (config := { maxSteps := 2000000 }) (disch := first | omega | rfl) only [sB, Nat.reduceEqDiff, cl74, t0, t4]))
    refine (z8c (key := keyT) (rl.mono hx hw) (rw'.repL sd hx hw) (fun t ht => z39 (hp t ht).2.2 (hfine t ht)) hl hx.wf).mono ?_
    rintro v H1 ⟨hx1, E, a1, c1, hE, rfl, ho1⟩
    have hs := Ins.srtd (key := keyT) (l := l) hE
    repeat' (first | refine EvC.seq ?_ | refine EvC.scope ?_ | refine EvC.block ?_ | (refine EvC.skip ?_) | (refine EvC.exit ?_) | (refine EvC.ret ?_; try simp only [z01, z00]))
    refine z0p rfl (by simp only [sB, Nat.reduceEqDiff] <;> rfl) (by simp only [sB, Nat.reduceEqDiff] <;> rfl) ⟨hx.trans hx1, E.map fun i => l.getD i zT0, a1, c1, E.map cells, by rw [List.length_map], .inl ⟨⟨h0, hp⟩, hs⟩, ⟨by rw [List.length_map]; exact ho1.low hx.next, by rw [List.length_map, List.length_map]⟩, fun A rA i t ht => ?_⟩
    rw [List.getElem?_map] at ht
    obtain ⟨j, hj, e⟩ := Option.map_eq_some_iff.1 ht
    refine ⟨cells j, by rw [List.getElem?_map, hj]; rfl, rA.rep j t ?_⟩
    have hjl : j < l.length := hE.mem (List.mem_of_getElem? hj)
    rw [← e, List.getD, List.getElem?_eq_getElem hjl]; rfl
  refine EvC.block (EvC.loop (fun k st => ∃ tm H' i ak ck Lk, st = ⟨tm, [], H'⟩ ∧ k = l.length - i ∧ i ≤ l.length ∧ tm.get 0 = some (.slice a l.length c) ∧ tm.get 4 = some (.slice ak ((l.take i).map keyT).length ck) ∧ tm.get 5 = some (.int .i64 (i : Nat)) ∧ (∀ t ∈ l.take i, isPair t) ∧ Rowed H' 26 H.next ((l.take i).map keyT) ak ck Lk ∧ (∀ (i' : Nat) t, ((l.take i).map keyT)[i']? = some t → ∃ cs, Lk[i']? = some cs ∧ RepT H t cs) ∧ HX H H') ?_ l.length _ ?_)
  rotate_left
  · exact ⟨_, _, 0, none, 0, [], rfl, rfl, Nat.zero_le _, (by simp only [sG, reduceCtorEq] <;> rfl), by simp only [List.take_zero, List.map_nil, List.length_nil]; exact (by simp only [sG, Nat.reduceEqDiff, reduceCtorEq] <;> rfl), (by simp only [sB, Nat.reduceEqDiff, reduceCtorEq] <;> rfl), fun t ht => by simp at ht, ⟨.inl ⟨rfl, rfl⟩, rfl⟩, fun i t ht => by simp at ht, HX.refl hw⟩
  rintro k st ⟨tm, H', i, ak, ck, Lk, rfl, rfl, hi, t0, t4, t5, hp, rw', sd, hx⟩
  by_cases hlt : i < l.length
  rotate_left
  · have hi' : i = l.length := by omega
    rw [List.take_of_length_le (by omega)] at t4 hp rw' sd
    rw [List.length_map] at t4
    repeat' (first | refine EvC.seq ?_ | refine EvC.scope ?_ | refine EvC.block ?_ | (refine EvC.skip ?_) | (refine EvC.exit ?_; try simp only [sB]) | (refine EvC.ret ?_; try simp only [z01, z00]) | (refine EvC.reg ?_; simp (config := { maxSteps := 2000000 }) (disch := first | omega | rfl) only [sB, Nat.reduceEqDiff, reduceCtorEq, ln24, t0, t5, decn hlt]) | (refine EvC.condT ?_ ?_; simp (config := { maxSteps := 2000000 }) (disch := first | omega | rfl) only [sB, Nat.reduceEqDiff]; refine z03 ?_) | (refine EvC.condF ?_ ?_; simp (config := { maxSteps := 2000000 }) (disch := first | omega | rfl) only [sB, Nat.reduceEqDiff]; refine z03 ?_))
    exact ⟨_, _, ak, ck, Lk, rfl, (by simp only [sG, reduceCtorEq, t0] <;> rfl), (by simp only [sG, Nat.reduceEqDiff, t4] <;> rfl), hp, rw', sd, hx⟩
  obtain ⟨b, o, a1, c1, rfl, hld, hr1⟩ := rl.el hlt
  have hld1 := hx.load hw hld
  have l0 := z9h (j := 0) (n := 1) hld1 (by omega)
  have l1 := z9h (j := 1) (n := 1) hld1 (by omega)
  have l5 := z9h (j := 5) (n := 1) hld1 (by omega)
  simp only [Nat.add_zero, List.drop_zero, List.drop_succ_cons, List.take_succ_cons, List.take_zero] at l0 l1 l5
  have hno : ¬ isPair l[i] → ¬ ∀ t ∈ l, isPair t := fun h1 h2 => h1 (h2 _ (List.getElem_mem hlt))
  have stop : (¬ ∀ t ∈ l, isPair t) → @decide (∀ t ∈ l, isPair t) (Classical.propDecidable _) = false := fun h => @decide_eq_false _ (Classical.propDecidable _) h
  (repeat refine EvC.seq ?_); refine EvC.reg ?_; simp (config := { maxSteps := 2000000 }) (disch := first | omega | rfl) only [sB, Nat.reduceEqDiff, reduceCtorEq, ln24, t0, t5, decl hlt]
  (repeat refine EvC.seq ?_); refine EvC.condT (by simp (config := { maxSteps := 2000000 }) (disch := first | omega | rfl) only [sB, Nat.reduceEqDiff]) ?_; (try refine EvC.skip ?_); (try simp only [z02, z0a])
  by_cases k5 : l[i].kind = 5
  rotate_left
  · have hc := hno fun h => k5 h.1
    rw [stop hc]
    repeat' (first | refine EvC.seq ?_ | refine EvC.scope ?_ | refine EvC.block ?_ | (refine EvC.skip ?_) | (refine EvC.exit ?_) | (refine EvC.ret ?_; try simp only [z01, z00]) | (refine EvC.reg ?_; simp (config := { maxSteps := 2000000 }) (disch := first | omega | rfl) only [sB, Nat.reduceEqDiff, reduceCtorEq, ia24, z0w, ld3, t0, t5, l0, z2x k5]) | (refine EvC.condT ?_ ?_; simp (config := { maxSteps := 2000000 }) (disch := first | omega | rfl) only [sB, Nat.reduceEqDiff]; refine z03 ?_))
    exact z0p rfl (by simp only [sB, Nat.reduceEqDiff] <;> rfl) (by simp only [sG, Nat.reduceEqDiff] <;> rfl) ⟨hx, [], none, 0, [], rfl, .inr ⟨fun h => hc h.2, rfl⟩, ⟨.inl ⟨rfl, rfl⟩, rfl⟩, fun A rA i t ht => by simp at ht⟩
  by_cases kn : l[i].name = mns
  rotate_left
  · have hc := hno fun h => kn h.2.1
    rw [stop hc]
    repeat' (first | refine EvC.seq ?_ | refine EvC.scope ?_ | refine EvC.block ?_ | (refine EvC.skip ?_) | (refine EvC.exit ?_) | (refine EvC.ret ?_; try simp only [z01, z00]) | (refine EvC.reg ?_; simp (config := { maxSteps := 2000000 }) (disch := first | omega | rfl) only [sB, Nat.reduceEqDiff, reduceCtorEq, ia24, z0w, ld3, z2j, ld9, t0, t5, l0, l1, z10 k5, z31, zl1 kn, Bool.not_false, Bool.false_eq_true]) | (refine EvC.condT ?_ ?_; simp (config := { maxSteps := 2000000 }) (disch := first | omega | rfl) only [sB, Nat.reduceEqDiff]; refine z03 ?_))
    exact z0p rfl (by simp only [sB, Nat.reduceEqDiff] <;> rfl) (by simp only [sG, Nat.reduceEqDiff] <;> rfl) ⟨hx, [], none, 0, [], rfl, .inr ⟨fun h => hc h.2, rfl⟩, ⟨.inl ⟨rfl, rfl⟩, rfl⟩, fun A rA i t ht => by simp at ht⟩
  by_cases kk2 : l[i].args.length = 2
  rotate_left
  · have hc := hno fun h => kk2 h.2.2
    have k2' : (l[i].args.length : Int) ≠ 2 := by omega
    rw [stop hc]
    repeat' (first | refine EvC.seq ?_ | refine EvC.scope ?_ | refine EvC.block ?_ | (refine EvC.skip ?_) | (refine EvC.exit ?_) | (refine EvC.ret ?_; try simp only [z01, z00]) | (refine EvC.reg ?_; simp (config := { maxSteps := 2000000 }) (disch := first | omega | rfl) only [sB, Nat.reduceEqDiff, reduceCtorEq, ln24, ia24, z0w, ld3, z2j, ld9, z0r, ld24, t0, t5, l0, l1, l5, z10 k5, z31, ze6 kn, Bool.not_true, z2x k2', Bool.false_eq_true]) | (refine EvC.condT ?_ ?_; simp (config := { maxSteps := 2000000 }) (disch := first | omega | rfl) only [sB, Nat.reduceEqDiff]; refine z03 ?_))
    exact z0p rfl (by simp only [sB, Nat.reduceEqDiff] <;> rfl) (by simp only [sG, Nat.reduceEqDiff] <;> rfl) ⟨hx, [], none, 0, [], rfl, .inr ⟨fun h => hc h.2, rfl⟩, ⟨.inl ⟨rfl, rfl⟩, rfl⟩, fun A rA i t ht => by simp at ht⟩
  have k2' : (l[i].args.length : Int) = 2 := by omega
  obtain ⟨a0, c0, cells0, h6, -, -, -, -, -, rla⟩ := hr1.six
  obtain ⟨rfl, rfl⟩ : a1 = a0 ∧ c1 = c0 := by simpa [Hb.six] using h6
  obtain ⟨b', o', rfl, ldk, rk⟩ := rla.at (z9e kk2)
  obtain ⟨xk, yk, zk, ek, -⟩ := rk.six
  rw [ek] at ldk rk
  have ldk1 := hx.load hw ldk
  rw [Nat.zero_mul, Nat.add_zero] at ldk1
  have h2 : 0 < l[i].args.length := by omega
  have etl : ((l.take i).map keyT).length = i := by rw [List.length_map, List.length_take]; omega
  obtain ⟨H2, v2, e7, ho3, n3, hk3, -⟩ := rw'.row.push (y := six (keyT l[i]) xk yk) ean rfl rfl (by rw [rw'.len, etl]; omega) hx.next
  obtain ⟨a3, c3, rfl, -, -⟩ := ho3.slice
  have l3 : (Lk ++ [six (keyT l[i]) xk yk]).length = i + 1 := by rw [List.length_append, rw'.len, etl]; rfl
  rw [l3] at e7 ho3
  rw [etl] at e7 t4
  have et : (l.take (i + 1)).map keyT = (l.take i).map keyT ++ [keyT l[i]] := by rw [← List.take_append_getElem hlt, List.map_append]; rfl
  repeat' (first | refine EvC.seq ?_ | refine EvC.scope ?_ | refine EvC.block ?_ | (refine EvC.skip ?_; try simp only [z02]) | (refine EvC.exit ?_) | (refine EvC.ret ?_; try simp only [z01, z00]) | (refine EvC.reg ?_; simp (config := { maxSteps := 2000000 }) (disch := first | omega | rfl) only [sB, Nat.reduceEqDiff, Nat.reduceAdd, Value.cells, one, reduceCtorEq, layC, Int.reduceToNat, ln24, z0w, ld3, z2j, ld9, z0r, ld24, ld26, zai, t0, t4, t5, l0, l1, l5, z10 k5, z31, ze6 kn, Bool.not_true, z10 k2', Bool.false_eq_true, iz24, ldk1, e7, z5f (i := i) (by omega), Nat.zero_mul]) | (refine EvC.condT ?_ ?_; simp (config := { maxSteps := 2000000 }) (disch := first | omega | rfl) only [sB, Nat.reduceEqDiff]; refine z03 ?_) | (refine EvC.condF ?_ ?_; simp (config := { maxSteps := 2000000 }) (disch := first | omega | rfl) only [sB, Nat.reduceEqDiff]; refine z03 ?_))
  refine ⟨l.length - (i + 1), by omega, _, _, i + 1, a3, c3, Lk ++ [six (keyT l[i]) xk yk], rfl, rfl, by omega, (by simp only [sG, reduceCtorEq, t0] <;> rfl), by rw [et, List.length_append, etl]; exact (by simp only [sB, Nat.reduceEqDiff] <;> rfl), (by simp only [sG, Nat.reduceEqDiff] <;> rfl), fun t ht => ?_, ⟨?_, ?_⟩, fun j t ht => ?_, hk3 _ hx (Nat.le_refl _)⟩
  · rw [← List.take_append_getElem hlt] at ht
    rcases List.mem_append.1 ht with h | h
    · exact hp t h
    · rw [List.mem_singleton.1 h]; exact ⟨k5, kn, kk2⟩
  · rw [et, List.length_append, etl]; exact ho3
  · rw [l3, et, List.length_append, etl]; rfl
  · rw [et] at ht
    by_cases hj : j < i
    · rw [List.getElem?_append_left (by rw [etl]; exact hj)] at ht
      obtain ⟨cs, h1, h2⟩ := sd j t ht
      exact ⟨cs, by rw [List.getElem?_append_left (by rw [rw'.len, etl]; exact hj)]; exact h1, h2⟩
    · have hj' : j = i := by
        have := (List.getElem?_eq_some_iff.1 ht).1
        rw [List.length_append, etl] at this
        simp at this; omega
      subst hj'
      rw [List.getElem?_append_right (by rw [etl]; exact Nat.le_refl _), etl, Nat.sub_self] at ht
      cases ht
      exact ⟨_, by rw [List.getElem?_append_right (by rw [rw'.len, etl]; exact Nat.le_refl _), rw'.len, etl, Nat.sub_self]; rfl, rk⟩
end Go.Proofs.YtlllbkjiadcloaaDoor.hb
end

-- Y11
section
namespace Go.Proofs.YtlllbkjiadcloaaDoor.hb
open Go Go.RowKit Go.Hb
variable {ok : Ok}
set_option maxRecDepth 10000
attribute [local irreducible] LX LG EL STG SOP SGO SGD SAL SRD SEF SEG SLK SCK ES
theorem zcm {H : Heap} (hw : H.wf) : EvF Tryd.prog okT 12 [] H fun v H' => v = .bool true ∧ HX H H' := zir hw
end Go.Proofs.YtlllbkjiadcloaaDoor.hb
end

-- So14
section
namespace Go.Hb
open Go Go.RowKit
theorem FL.repC {H : Heap} {T : TypeId} {S : Nat → Prop} {l : List Tm} {a : Option Addr} {c : Nat} (h : FL H T S l a c) (hw : H.wf) : ∃ cells, ∀ G : Heap, (∀ n, S n → n < H.next → G.get n = H.get n) → RepL G l a c cells := by
  cases h with
  | nil => exact ⟨fun _ => [], fun G _ => ⟨Nat.le_refl _, Nat.zero_le _, fun _ => ⟨rfl, rfl⟩, fun i ad hi => by simp at hi, fun i t h => by simp at h⟩⟩
  | row _ _ b c cells Si ai ci h1 h2 h3 h4 h5 h6 h7 h8 h9 h10 h11 =>
    refine ⟨fun i => (cells.drop (i * 6)).take 6, fun G hk => RepL.of_row (by rw [hk b h7 (hw b _ h3)]; exact h3) (fun i hi => rfl) (fun i t ht => ?_) h1 h2⟩
    show RepT G t ((cells.drop (i * 6)).take 6)
    rw [h5 i t ht]
    exact RepF.rep (T := T) (S := Si i) ⟨ai i, ci i, rfl, h6 i t ht, (h11 i t ht).heap (fun n hn hl => hk n (h9 i n (List.getElem?_eq_some_iff.1 ht).1 hn) hl) hw⟩
theorem Rowed.keep {H H' : Heap} {T : TypeId} {base : Nat} {m : List Tm} {a : Option Addr} {c : Nat} {L : List (List Value)} (h : Rowed H T base m a c L) (hx : HX H H') : Rowed H' T base m a c L := ⟨h.row.keep hx, h.len⟩
def Stands (H : Heap) (m : List Tm) (L : List (List Value)) : Prop := ∀ (i : Nat) t, m[i]? = some t → ∃ cs, L[i]? = some cs ∧ RepT H t cs
end Go.Hb
namespace Go.Proofs.YtlllbkjiadcloaaDoor.hb
open Go Go.RowKit Go.Hb
variable {ok : Ok}
set_option maxRecDepth 10000
attribute [local irreducible] LX LG EL STG SOP SGO SGD SAL SRD SEF SEG SLK SCK ES
theorem zl4 {t : Tm} (h : Fine t) : Few 1000000 t := (Fine.few _ (Nat.lt_succ_self _) h).up (by omega)
theorem zi1 {once : Bool} {l m : List Tm} (h : SortO once l m) : ∀ t ∈ m, Few 1000000 t := fun t ht => by
  obtain ⟨h0, h1⟩ := h.mem ht
  exact zl4 (z1q.1 (z1v h0 t h1)).2
theorem zi2 {l m : List Tm} (h : KeySO l m) : ∀ t ∈ m, Few 1000000 t := fun t ht => by
  obtain ⟨h0, h1⟩ := h.mem ht
  exact zl4 (z1q.1 (z1v h0 t h1)).2
set_option maxHeartbeats 16000000 in
theorem zbj {l : List Tm} {once : Bool} {a : Option Addr} {c : Nat} {cells : Nat → List Value} {H : Heap} (rl : RepL H l a c cells) (hl : l.length ≤ 1000000) (hw : H.wf) :
    EvF Tryd.prog okT 10 [.slice a l.length c, .bool once] H fun v _ => v = .bool true := by
  have hlm : l.length ≤ most := Nat.le_trans hl (by simp [most])
  refine EvF.enter rfl Tryd.func10 (by decide) rfl ?_
  repeat' (first | refine EvC.seq ?_ | refine EvC.scope ?_ | refine EvC.block ?_ | (refine EvC.skip ?_) | (refine EvC.exit ?_) | (refine EvC.ret ?_; try simp only [z01, z00]) | (refine EvC.reg ?_; simp (config := { maxSteps := 2000000 }) (disch := first | omega | rfl) only [sB, initTm, Nat.reduceEqDiff, reduceCtorEq, cl12]))
  refine (zcm hw).mono ?_
  rintro v A1 ⟨rfl, hx⟩
  repeat' (first | refine EvC.seq ?_ | refine EvC.scope ?_ | refine EvC.block ?_ | (refine EvC.skip ?_) | (refine EvC.exit ?_) | (refine EvC.ret ?_; try simp only [z01, z00]) | (refine EvC.reg ?_; simp (config := { maxSteps := 2000000 }) (disch := first | omega | rfl) only [sB, Nat.reduceEqDiff, reduceCtorEq, cl18]))
  refine (zjn (rl.mono hx hw) hx.wf).mono ?_
  rintro v A2 ⟨rfl, k2⟩
  have hx := hx.trans k2
  have w2 := hx.wf
  have rl2 := rl.mono hx hw
  try simp (config := { maxSteps := 2000000 }) (disch := first | omega | rfl) only []
  (repeat refine EvC.seq ?_); refine EvC.reg ?_; simp (config := { maxSteps := 2000000 }) (disch := first | omega | rfl) only [sA]
  (repeat refine EvC.seq ?_); refine EvC.reg ?_; simp (config := { maxSteps := 2000000 }) (disch := first | omega | rfl) only [sA]
  (repeat refine EvC.seq ?_); refine EvC.reg ?_; simp (config := { maxSteps := 2000000 }) (disch := first | omega | rfl) only [sB, Nat.reduceEqDiff, reduceCtorEq]
  (repeat refine EvC.seq ?_); refine EvC.reg ?_; simp (config := { maxSteps := 2000000 }) (disch := first | omega | rfl) only [sB, Nat.reduceEqDiff, reduceCtorEq]
  refine EvC.join (fun st => ∃ tm G W aw cw Lw K ak ck Lk, st = ⟨tm, [], G⟩ ∧ tm.get 0 = some (.slice a l.length c) ∧ tm.get 1 = some (.bool once) ∧ tm.get 5 = some (.bool true) ∧ tm.get 6 = some (.int .i64 (chkL l)) ∧ tm.get 7 = some (.slice aw W.length cw) ∧ tm.get 8 = some (.slice ak K.length ck) ∧ tm.get 9 = some (.int .i64 (keyE l)) ∧
      SortO once l W ∧ Rowed G 26 A2.next W aw cw Lw ∧ Stands A2 W Lw ∧ KeySO l K ∧ Rowed G 26 A2.next K ak ck Lk ∧ Stands A2 K Lk ∧ HX A2 G) ?_ ?_
  · by_cases h0 : chkL l = 0
    · repeat' (first | refine EvC.seq ?_ | refine EvC.scope ?_ | refine EvC.block ?_ | (refine EvC.skip ?_) | (refine EvC.exit ?_) | (refine EvC.ret ?_; try simp only [z01, z00]) | (refine EvC.reg ?_; simp (config := { maxSteps := 2000000 }) (disch := first | omega | rfl) only [sB, Nat.reduceEqDiff, reduceCtorEq, cl38, z19 h0]) | (refine EvC.condT ?_ ?_; simp (config := { maxSteps := 2000000 }) (disch := first | omega | rfl) only [sB, Nat.reduceEqDiff, reduceCtorEq, z19 h0]; refine z03 ?_))
      refine (zjt (once := once) rl2 h0 hlm w2).mono ?_
      rintro v A3 ⟨k3, W, aw, cw, Lw, rfl, hW, rW, sW⟩
      repeat' (first | refine EvC.seq ?_ | refine EvC.scope ?_ | refine EvC.block ?_ | (refine EvC.skip ?_) | (refine EvC.exit ?_) | (refine EvC.ret ?_; try simp only [z01, z00]) | (refine EvC.reg ?_; simp (config := { maxSteps := 2000000 }) (disch := first | omega | rfl) only [sB, Nat.reduceEqDiff, reduceCtorEq, cl39]))
      refine (zcl (rl2.mono k3 w2) h0 hlm k3.wf).mono ?_
      rintro v A4 ⟨k4, K, ak, ck, Lk, rfl, hK, rK, sK⟩
      have rK' : Rowed A4 26 A2.next K ak ck Lk := ⟨rK.row.low k3.next, rK.len⟩
      have sK' : Stands A2 K Lk := sK A2 rl2
      by_cases hp : ∀ t ∈ l, isPair t
      · have e1 : @decide (∀ t ∈ l, isPair t) (Classical.propDecidable _) = true := @decide_eq_true _ (Classical.propDecidable _) hp
        rw [e1]
        repeat' (first | refine EvC.seq ?_ | refine EvC.scope ?_ | refine EvC.block ?_ | (refine EvC.skip ?_; try simp only [z02]) | (refine EvC.exit ?_) | (refine EvC.ret ?_; try simp only [z01, z00]) | (refine EvC.reg ?_; simp (config := { maxSteps := 2000000 }) (disch := first | omega | rfl) only [sB, Nat.reduceEqDiff, reduceCtorEq, Bool.not_true]) | (refine z0z ?_; simp (config := { maxSteps := 2000000 }) (disch := first | omega | rfl) only [sB, Nat.reduceEqDiff, reduceCtorEq]) | (refine EvC.condT ?_ ?_; simp (config := { maxSteps := 2000000 }) (disch := first | omega | rfl) only [sB, Nat.reduceEqDiff, reduceCtorEq]; refine z03 ?_) | (refine EvC.condF ?_ ?_; simp (config := { maxSteps := 2000000 }) (disch := first | omega | rfl) only [sB, Nat.reduceEqDiff, reduceCtorEq]; refine z03 ?_))
        exact ⟨_, _, W, aw, cw, Lw, K, ak, ck, Lk, rfl, (by simp only [sG, reduceCtorEq] <;> rfl), (by simp only [sG, Nat.reduceEqDiff, reduceCtorEq] <;> rfl), (by simp only [sG, Nat.reduceEqDiff, reduceCtorEq] <;> rfl), (by simp only [sG, Nat.reduceEqDiff, reduceCtorEq] <;> rfl), (by simp only [sG, Nat.reduceEqDiff, reduceCtorEq] <;> rfl), (by simp only [sG, Nat.reduceEqDiff, reduceCtorEq] <;> rfl), by rw [zl2 h0 hp, ← h0]; exact (by simp only [sG, Nat.reduceEqDiff, reduceCtorEq] <;> rfl), hW, rW.keep k4, sW, hK, rK', sK', k3.trans k4⟩
      · have e1 : @decide (∀ t ∈ l, isPair t) (Classical.propDecidable _) = false := @decide_eq_false _ (Classical.propDecidable _) hp
        rw [e1]
        repeat' (first | refine EvC.seq ?_ | refine EvC.scope ?_ | refine EvC.block ?_ | (refine EvC.skip ?_) | (refine EvC.exit ?_) | (refine EvC.ret ?_; try simp only [z01, z00]) | (refine EvC.reg ?_; simp (config := { maxSteps := 2000000 }) (disch := first | omega | rfl) only [sB, Nat.reduceEqDiff, reduceCtorEq, Bool.not_false]) | (refine z0z ?_; simp (config := { maxSteps := 2000000 }) (disch := first | omega | rfl) only [sB, Nat.reduceEqDiff, reduceCtorEq]) | (refine EvC.condT ?_ ?_; simp (config := { maxSteps := 2000000 }) (disch := first | omega | rfl) only [sB, Nat.reduceEqDiff, reduceCtorEq]; refine z03 ?_))
        exact ⟨_, _, W, aw, cw, Lw, K, ak, ck, Lk, rfl, (by simp only [sG, reduceCtorEq] <;> rfl), (by simp only [sG, Nat.reduceEqDiff, reduceCtorEq] <;> rfl), (by simp only [sG, Nat.reduceEqDiff, reduceCtorEq] <;> rfl), (by simp only [sG, Nat.reduceEqDiff, reduceCtorEq] <;> rfl), (by simp only [sG, Nat.reduceEqDiff, reduceCtorEq] <;> rfl), (by simp only [sG, Nat.reduceEqDiff, reduceCtorEq] <;> rfl), by rw [ze7 h0 hp]; exact (by simp only [sG, Nat.reduceEqDiff, reduceCtorEq] <;> rfl), hW, rW.keep k4, sW, hK, rK', sK', k3.trans k4⟩
    · repeat' (first | refine EvC.seq ?_ | refine EvC.scope ?_ | refine EvC.block ?_ | (refine EvC.skip ?_; try simp only [z02, z0i h0]) | (refine EvC.exit ?_) | (refine EvC.ret ?_; try simp only [z01, z00]) | (refine EvC.condT ?_ ?_; simp (config := { maxSteps := 2000000 }) (disch := first | omega | rfl) only [sB, Nat.reduceEqDiff, reduceCtorEq, z0i h0]; refine z03 ?_) | (refine EvC.condF ?_ ?_; simp (config := { maxSteps := 2000000 }) (disch := first | omega | rfl) only [sB, Nat.reduceEqDiff, reduceCtorEq, z0i h0]; refine z03 ?_))
      exact ⟨_, _, [], none, 0, [], [], none, 0, [], rfl, (by simp only [sG, reduceCtorEq] <;> rfl), (by simp only [sG, Nat.reduceEqDiff, reduceCtorEq] <;> rfl), (by simp only [sG, Nat.reduceEqDiff, reduceCtorEq] <;> rfl), (by simp only [sG, Nat.reduceEqDiff, reduceCtorEq] <;> rfl), (by simp only [sB, Nat.reduceEqDiff, reduceCtorEq] <;> rfl), (by simp only [sB, Nat.reduceEqDiff, reduceCtorEq] <;> rfl), by rw [zl3 h0]; exact (by simp only [sG, Nat.reduceEqDiff, reduceCtorEq] <;> rfl), by unfold SortO; rw [if_neg h0], ⟨.inl ⟨rfl, rfl⟩, rfl⟩, fun i t ht => by simp at ht, .inr ⟨fun h => h0 h.1, rfl⟩, ⟨.inl ⟨rfl, rfl⟩, rfl⟩, fun i t ht => by simp at ht, HX.refl w2⟩
  rintro st ⟨tm, B0, W, aw, cw, Lw, K, ak, ck, Lk, rfl, t0, t1, t5, t6, t7, t8, t9, hW, rW, sW, hK, rK, sK, g0⟩
  have hWl : W.length ≤ 1000000 := Nat.le_trans hW.len hl
  have hKl : K.length ≤ 1000000 := Nat.le_trans hK.len hl
  have wB0 := g0.wf
  repeat' (first | refine EvC.seq ?_ | refine EvC.scope ?_ | refine EvC.block ?_ | (refine EvC.skip ?_) | (refine EvC.exit ?_) | (refine EvC.ret ?_; try simp only [z01, z00]) | (refine EvC.reg ?_; simp (config := { maxSteps := 2000000 }) (disch := first | omega | rfl) only [sB, Nat.reduceEqDiff, cl40, t0, t1]))
  refine (zhy (once := once) (rl2.mono g0 w2) hlm wB0).mono ?_
  rintro v B1 ⟨j1, m1, a1, c1, rfl, f1, s1⟩
  obtain rfl : m1 = W := s1.one hW
  have wB1 := j1.wf
  repeat' (first | refine EvC.seq ?_ | refine EvC.scope ?_ | refine EvC.block ?_ | (refine EvC.skip ?_) | (refine EvC.exit ?_) | (refine EvC.ret ?_; try simp only [z01, z00]) | (refine EvC.reg ?_; simp (config := { maxSteps := 2000000 }) (disch := first | omega | rfl) only [sB, Nat.reduceEqDiff, reduceCtorEq, cl40, t0, t1]) | (refine z0z ?_; simp (config := { maxSteps := 2000000 }) (disch := first | omega | rfl) only [sB, Nat.reduceEqDiff]))
  refine (zhy (once := once) (rl2.mono (g0.trans j1) w2) hlm wB1).mono ?_
  rintro v B2 ⟨j2, m2, a2, c2, rfl, f2, s2⟩
  obtain rfl : m2 = m1 := s2.one hW
  have wB2 := j2.wf
  have n1 := j1.next
  have n2 := j2.next
  have j12 := j1.trans j2
  have f1' := f1.keep j2 wB1
  obtain ⟨cl2, h2⟩ := f2.repC wB2
  repeat' (first | refine EvC.seq ?_ | refine EvC.scope ?_ | refine EvC.block ?_ | (refine EvC.skip ?_) | (refine EvC.exit ?_) | (refine EvC.ret ?_; try simp only [z01, z00]) | (refine EvC.reg ?_; simp (config := { maxSteps := 2000000 }) (disch := first | omega | rfl) only [sB, Nat.reduceEqDiff, cl26, t7]) | (refine z0z ?_; simp (config := { maxSteps := 2000000 }) (disch := first | omega | rfl) only [sB, Nat.reduceEqDiff]))
  refine (ze5 f1' (h2 B2 fun _ _ _ => rfl) ((rW.keep j12).repL sW (g0.trans j12) w2) (fun n hn => by have := hn.2; omega) (fun G hk => ⟨h2 G fun n hn hl => hk.keep n hl fun hs => by have := hn.1; have := hs.2; omega, (rW.keep (j12.then hk fun n hn hs => by have := hs.1; omega)).repL sW (g0.trans (j12.then hk fun n hn hs => by have := hs.1; omega)) w2⟩) (zi1 hW) hWl wB2).mono ?_
  rintro v B3 ⟨rfl, k3⟩
  have j3 : HX B0 B3 := j12.then k3 fun n hn hs => by have := hs.1; omega
  have wB3 := k3.wf
  rw [zmk rfl]
  repeat' (first | refine EvC.seq ?_ | refine EvC.scope ?_ | refine EvC.block ?_ | (refine EvC.skip ?_) | (refine EvC.exit ?_) | (refine EvC.ret ?_; try simp only [z01, z00]) | (refine EvC.reg ?_; simp (config := { maxSteps := 2000000 }) (disch := first | omega | rfl) only [sB, Nat.reduceEqDiff, reduceCtorEq, cl41, t0]))
  refine (z8d (rl2.mono (g0.trans j3) w2) hlm wB3).mono ?_
  rintro v B4 ⟨j4, m4, a4, c4, rfl, f4, s4⟩
  obtain rfl : m4 = K := s4.one hK
  have wB4 := j4.wf
  repeat' (first | refine EvC.seq ?_ | refine EvC.scope ?_ | refine EvC.block ?_ | (refine EvC.skip ?_) | (refine EvC.exit ?_) | (refine EvC.ret ?_; try simp only [z01, z00]) | (refine EvC.reg ?_; simp (config := { maxSteps := 2000000 }) (disch := first | omega | rfl) only [sB, Nat.reduceEqDiff, reduceCtorEq, cl41, t0]) | (refine z0z ?_; simp (config := { maxSteps := 2000000 }) (disch := first | omega | rfl) only [sB, Nat.reduceEqDiff]))
  refine (z8d (rl2.mono (g0.trans (j3.trans j4)) w2) hlm wB4).mono ?_
  rintro v B5 ⟨j5, m5, a5, c5, rfl, f5, s5⟩
  obtain rfl : m5 = m4 := s5.one hK
  have wB5 := j5.wf
  have n3 := j3.next
  have n4 := j4.next
  have n5 := j5.next
  have j35 := j3.trans (j4.trans j5)
  have f4' := f4.keep j5 wB4
  obtain ⟨cl5, h5⟩ := f5.repC wB5
  repeat' (first | refine EvC.seq ?_ | refine EvC.scope ?_ | refine EvC.block ?_ | (refine EvC.skip ?_) | (refine EvC.exit ?_) | (refine EvC.ret ?_; try simp only [z01, z00]) | (refine EvC.reg ?_; simp (config := { maxSteps := 2000000 }) (disch := first | omega | rfl) only [sB, Nat.reduceEqDiff, cl26, t8]) | (refine z0z ?_; simp (config := { maxSteps := 2000000 }) (disch := first | omega | rfl) only [sB, Nat.reduceEqDiff]))
  refine (ze5 f4' (h5 B5 fun _ _ _ => rfl) ((rK.keep j35).repL sK (g0.trans j35) w2) (fun n hn => by have := hn.2; omega) (fun G hk => ⟨h5 G fun n hn hl => hk.keep n hl fun hs => by have := hn.1; have := hs.2; omega, (rK.keep (j35.then hk fun n hn hs => by have := hs.1; omega)).repL sK (g0.trans (j35.then hk fun n hn hs => by have := hs.1; omega)) w2⟩) (zi2 hK) hKl wB5).mono ?_
  rintro v B6 ⟨rfl, k6⟩
  rw [zmk rfl]
  repeat' (first | refine EvC.seq ?_ | refine EvC.scope ?_ | refine EvC.block ?_ | (refine EvC.skip ?_) | (refine EvC.exit ?_) | (refine EvC.ret ?_; try simp only [z01, z00]) | (refine EvC.reg ?_; simp (config := { maxSteps := 2000000 }) (disch := first | omega | rfl) only [sB, Nat.reduceEqDiff, t5, t6, t9, z19]))
  exact z04 rfl (by simp only [sG, Nat.reduceEqDiff] <;> rfl) rfl
end Go.Proofs.YtlllbkjiadcloaaDoor.hb
end

-- Law2
section
namespace Go.Hb
open Go Go.RowKit
section
variable {H : Type} {enc : TypeId × Value → H} {P : Program} {W : World} {sp : Nat → Bool} {fuel : Nat} {t e : TypeId} {cs : List Value} {d : DataW H} {ps : List MemPlace}
theorem znr {k : IntKind} {n : Int} : ab P W (.int k n) = .int k n := rfl
theorem zi3 {s : ByteArray} : ab P W (.string s) = .string s := rfl
theorem z9i {k : IntKind} (ht : P.underlying t = some (.int k)) (h : DataW.trod enc P W 0 sp true fuel t cs = some (d, ps)) : ∃ n, cs = [.int k n] ∧ (Lit.int k n).wf = true := by
  cases fuel with
  | zero => simp [DataW.trod] at h
  | succ m =>
    unfold DataW.trod at h
    rw [ht] at h
    split at h <;> simp_all
theorem z7j (ht : P.underlying t = some .string) (h : DataW.trod enc P W 0 sp true fuel t cs = some (d, ps)) : ∃ s : ByteArray, cs = [.string s] ∧ s.size ≤ maxLen := by
  cases fuel with
  | zero => simp [DataW.trod] at h
  | succ m =>
    unfold DataW.trod at h
    rw [ht] at h
    split at h <;> simp_all
theorem trod_slice (ht : P.underlying t = some (.slice e)) (h : DataW.trod enc P W 0 sp true fuel t cs = some (d, ps)) :
    cs = [.slice none 0 0] ∨ ∃ a len cap m, fuel = m + 1 ∧ cs = [.slice (some a) len cap] ∧ len ≤ cap ∧ cap ≤ maxLen ∧
      ∀ i, i < len → ∃ es d' ps', W.cells? 0 (a.add (i * P.cellsOf e)) (P.cellsOf e) = some es ∧ DataW.trod enc P W 0 sp true m e es = some (d', ps') := by
  cases fuel with
  | zero => simp [DataW.trod] at h
  | succ m =>
    unfold DataW.trod at h
    rw [ht] at h
    split at h <;> simp_all
    obtain ⟨⟨hl, hc⟩, h⟩ := h
    simp only [Option.bind_eq_some_iff, Option.map_eq_some_iff] at h
    obtain ⟨elems, he, _⟩ := h
    refine ⟨_, _, _, ⟨rfl, rfl, rfl⟩, hl, hc, fun i hi => ?_⟩
    have hlen := mapM_some_length he
    have := mapM_some_get he i i (by simp [hi])
    rw [List.getElem?_eq_getElem (by rw [hlen]; simpa using hi)] at this
    simp only [Option.bind_eq_some_iff] at this
    obtain ⟨es, h1, h2⟩ := this
    exact ⟨es, h1, _, _, h2⟩
theorem zml (a : Addr) (i : Nat) : (a.add i).block = a.block := by unfold Addr.add; split <;> rfl
theorem zbk {a : Addr} {s i : Nat} {es : List Value} (hs : 0 < s) (h : W.cells? 0 (a.add (i * s)) s = some es) (hsp : a.spot = none) : (heapW P W).load ⟨a.block, a.off + i * s, none⟩ s = some (es.map (ab P W)) ∧ es.length = s ∧ a.block < W.heap.size := by
  obtain ⟨_, hl, hc⟩ := World.cells?_some h
  obtain ⟨b, o, sp⟩ := a
  obtain rfl : sp = none := hsp
  have hb := World.cells?_block h hs
  rw [zml] at hb
  refine ⟨zeq hs hl fun j v hj => ?_, hl, hb⟩
  have hjl : j < es.length := (List.getElem?_eq_some_iff.1 hj).1
  have := hc j (by omega)
  rw [add0, add0] at this
  rw [this]; exact hj
theorem zfg {a : Addr} {s : Nat} {es : List Value} (hs : 0 < s) (h : W.cells? 0 (a.add (0 * s)) s = some es) : a.spot = none := by
  obtain ⟨_, hl, hc⟩ := World.cells?_some h
  have e0 : ∀ a : Addr, a.add 0 = a := fun a => by unfold Addr.add; simp
  have := hc 0 hs
  rw [Nat.zero_mul, e0, e0, List.getElem?_eq_getElem (by omega)] at this
  unfold World.cell? at this
  split at this
  · split at this
    · cases this
    · rename_i hn; simpa using hn
  · cases this
end
section
variable {H : Type} {enc : TypeId × Value → H} {P : Program} {W : World} {sp : Nat → Bool}
structure TermTypes (P : Program) (tT tS tI tG tU : TypeId) : Prop where
  fields : ∃ fs : Array Field, P.underlying tT = some (.struct fs) ∧ (fs.toList.map fun f => (f.offset, f.type)) = [(0, tI), (1, tG), (2, tG), (3, tU), (4, tI), (5, tS)]
  slice : P.underlying tS = some (.slice tT)
  int : P.underlying tI = some (.int .i64)
  str : P.underlying tG = some .string
  u64 : P.underlying tU = some (.int .u64)
  cT : P.cellsOf tT = 6
  cS : P.cellsOf tS = 1
  cI : P.cellsOf tI = 1
  cG : P.cellsOf tG = 1
  cU : P.cellsOf tU = 1
theorem ze8 {n : Int} (h : (Lit.int .i64 n).wf = true) : i64 n := by
  unfold i64
  unfold Lit.wf at h
  simp [IntKind.min, IntKind.max, IntKind.bits, IntKind.signed] at h
  exact h
theorem zl5 {n : Int} (h : (Lit.int .u64 n).wf = true) : u64 n := by
  unfold u64
  unfold Lit.wf at h
  simp [IntKind.min, IntKind.max, IntKind.bits, IntKind.signed] at h
  exact h
theorem z3b {cs : List Value} {o : Nat} {v : Value} (h : (cs.drop o).take 1 = [v]) : cs[o]? = some v := by
  have : ((cs.drop o).take 1)[0]? = some v := by rw [h]; rfl
  simpa [List.getElem?_take, List.getElem?_drop] using this
theorem ze9 {cs : List Value} {a b c d e f : Value} (hl : cs.length = 6) (h0 : cs[0]? = some a) (h1 : cs[1]? = some b) (h2 : cs[2]? = some c) (h3 : cs[3]? = some d) (h4 : cs[4]? = some e) (h5 : cs[5]? = some f) : cs = [a, b, c, d, e, f] := by
  match cs, hl with
  | [_, _, _, _, _, _], _ => simp at h0 h1 h2 h3 h4 h5; simp [h0, h1, h2, h3, h4, h5]
end
end Go.Hb
end

-- Law3
section
namespace Go.Hb
open Go Go.RowKit
section
variable {H : Type} {enc : TypeId × Value → H} {P : Program} {W : World} {sp : Nat → Bool}
end
end Go.Hb
end

-- Nd
section
namespace Go.Proofs.YtlllbkjiadcloaaDoor.hb
open Go Go.RowKit Go.Hb
def nd : Tm → Nat
  | .mk _ _ _ _ _ l => 1 + ndL l
where ndL : List Tm → Nat
  | [] => 0
  | t :: l => nd t + ndL l
theorem zcn (t : Tm) : nd t = 1 + nd.ndL t.args := by obtain ⟨k, s, u, b, v, l⟩ := t; rw [nd]; rfl
end Go.Proofs.YtlllbkjiadcloaaDoor.hb
end
