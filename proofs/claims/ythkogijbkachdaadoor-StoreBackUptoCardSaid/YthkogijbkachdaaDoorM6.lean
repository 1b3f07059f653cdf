import Derived.Test.YthkogijbkachdaaDoorM3
import Derived.Test.YthkogijbkachdaaDoorM5
import Derived.Test.YthkogijbkachdaaDoorM4
/- Lemmas on the program's own code, towards the laws of this folder, part 6. Conditions: as each lemma says. -/
-- Sg9
section
namespace Go.Proofs.YthkogijbkachdaaDoor.hb
open Go Go.RowKit Go.Hb
variable {ok : Ok}
set_option maxRecDepth 10000
attribute [local irreducible] LX LG EL STG SOP SGO SGD SAL SRD SEF SEG SLK SCK ES
theorem _root_.Go.Hb.SX.nm {A C : Heap} {s n : Nat} (h : SX s A C) (hn : n < A.next) (hm : ¬ Mut A s n) : ¬ Mut C s n := fun q => by
  rcases h.mt n q with q | q
  · exact hm q
  · omega
theorem St.box {H : Heap} {B s n : Nat} {σ : SS} (hs : St H B s σ) (hw : H.wf) (hl : n < H.next) (hm : ¬ Mut H s n) (D : Option Blk) : St (H.put n D) B s σ ∧ ∀ k, Mut (H.put n D) s k → Mut H s k :=
  hs.beside hw ((HK.refl (S := fun k => k = n) hw).put (.inl rfl) hl D) fun k e => e ▸ hm
mutual
def layS : SS → Tm → SS × (Int × Int)
  | σ, .mk k nm nu b v l => if k = 1 then (σ, (2, gi σ.vars v)) else if k = 5 then
      (layA { (functorS σ (nm, (l.length : Int))).1 with cells := σ.cells ++ [(5, ((functorS σ (nm, (l.length : Int))).2 : Int))] ++ List.replicate l.length (0, 0), own := σ.own ++ [-1] ++ List.replicate l.length (-2) } σ.cells.length 0 l, (4, (σ.cells.length : Int)))
    else ((atomicS σ (.mk k nm nu b v l)).1, (3, ((atomicS σ (.mk k nm nu b v l)).2 : Int)))
def layA : SS → Nat → Nat → List Tm → SS
  | σ, _, _, [] => σ
  | σ, at', i, t :: l => layA { (layS σ t).1 with cells := (layS σ t).1.cells.set (at' + 1 + i) (layS σ t).2 } at' (i + 1) l
end
theorem z5y {σ : SS} {t : Tm} (h : t.kind = 1) : layS σ t = (σ, (2, gi σ.vars t.var)) := by obtain ⟨k, nm, nu, b, v, l⟩ := t; have h' : k = 1 := h; rw [layS, if_pos h']; rfl
theorem z4v {σ : SS} {t : Tm} (h : t.kind ≠ 1) (h5 : t.kind ≠ 5) : layS σ t = ((atomicS σ t).1, (3, ((atomicS σ t).2 : Int))) := by obtain ⟨k, nm, nu, b, v, l⟩ := t; have h' : ¬ k = 1 := h; have h5' : ¬ k = 5 := h5; rw [layS, if_neg h', if_neg h5']
def layH (σ : SS) (k : ByteArray × Int) (n : Nat) : SS := { (functorS σ k).1 with cells := σ.cells ++ [(5, ((functorS σ k).2 : Int))] ++ List.replicate n (0, 0), own := σ.own ++ [-1] ++ List.replicate n (-2) }
theorem z4w {σ : SS} {t : Tm} (h5 : t.kind = 5) : layS σ t = (layA (layH σ (t.name, (t.args.length : Int)) t.args.length) σ.cells.length 0 t.args, (4, (σ.cells.length : Int))) := by
  obtain ⟨k, nm, nu, b, v, l⟩ := t
  have h5' : k = 5 := h5
  subst h5'
  rw [layS, if_neg (by omega), if_pos rfl]; rfl
theorem zam : ∀ (l : List Tm) (t : Tm) (σ : SS) (at' i : Nat), layA σ at' i (l ++ [t]) = { (layS (layA σ at' i l) t).1 with cells := (layS (layA σ at' i l) t).1.cells.set (at' + 1 + (i + l.length)) (layS (layA σ at' i l) t).2 }
  | [], t, σ, at', i => by rw [List.nil_append, layA, layA, layA, List.length_nil]; rfl
  | u :: l, t, σ, at', i => by
    rw [List.cons_append, layA, zam l t, layA, List.length_cons]
    have e : i + 1 + l.length = i + (l.length + 1) := by omega
    rw [e]
theorem z4x {l : List Tm} {i : Nat} (h : i < l.length) (σ : SS) (at' : Nat) : layA σ at' 0 (l.take (i + 1)) = { (layS (layA σ at' 0 (l.take i)) l[i]).1 with cells := (layS (layA σ at' 0 (l.take i)) l[i]).1.cells.set (at' + 1 + i) (layS (layA σ at' 0 (l.take i)) l[i]).2 } := by
  rw [← List.take_append_getElem h, zam, List.length_take, Nat.min_eq_left (by omega), Nat.zero_add]
theorem z5o (σ : SS) (t : Tm) : (atomicS σ t).1.vars = σ.vars ∧ (atomicS σ t).1.flags = σ.flags ∧ (atomicS σ t).1.cells = σ.cells ∧ (atomicS σ t).1.own = σ.own ∧ (atomicS σ t).1.funs = σ.funs ∧ (atomicS σ t).1.trail = σ.trail ∧ (atomicS σ t).1.marks = σ.marks ∧
    (atomicS σ t).1.consts.length ≤ σ.consts.length + 1 := by
  unfold atomicS
  split
  · exact ⟨rfl, rfl, rfl, rfl, rfl, rfl, rfl, by simp⟩
  · exact ⟨rfl, rfl, rfl, rfl, rfl, rfl, rfl, by simp⟩
theorem z1z (σ : SS) (k : ByteArray × Int) : (functorS σ k).1.vars = σ.vars ∧ (functorS σ k).1.flags = σ.flags ∧ (functorS σ k).1.cells = σ.cells ∧ (functorS σ k).1.own = σ.own ∧ (functorS σ k).1.consts = σ.consts ∧ (functorS σ k).1.trail = σ.trail ∧ (functorS σ k).1.marks = σ.marks ∧
    (functorS σ k).1.funs.length ≤ σ.funs.length + 1 := by
  unfold functorS
  split
  · exact ⟨rfl, rfl, rfl, rfl, rfl, rfl, rfl, by simp⟩
  · exact ⟨rfl, rfl, rfl, rfl, rfl, rfl, rfl, by simp⟩
structure LayG (n j : Nat) (σ τ : SS) : Prop where
  vars : τ.vars = σ.vars
  flags : τ.flags = σ.flags
  trail : τ.trail = σ.trail
  marks : τ.marks = σ.marks
  cells : σ.cells.length ≤ τ.cells.length ∧ τ.cells.length + j ≤ σ.cells.length + 2 * n
  own : τ.own.length + σ.cells.length = σ.own.length + τ.cells.length
  consts : τ.consts.length ≤ σ.consts.length + n
  funs : τ.funs.length ≤ σ.funs.length + n
theorem LayG.refl (σ : SS) : LayG 0 0 σ σ := ⟨rfl, rfl, rfl, rfl, by omega, by omega, by omega, by omega⟩
theorem LayG.trans {n m j i : Nat} {a b c : SS} (h : LayG n j a b) (k : LayG m i b c) : LayG (n + m) (j + i) a c :=
  ⟨k.vars.trans h.vars, k.flags.trans h.flags, k.trail.trans h.trail, k.marks.trans h.marks, by have := h.cells; have := k.cells; omega, by have := h.cells; have := k.cells; have := h.own; have := k.own; omega, by have := h.consts; have := k.consts; omega, by have := h.funs; have := k.funs; omega⟩
theorem zan {σ : SS} {at' : Nat} {l : List Tm} (hl : ∀ t ∈ l, ∀ σ, LayG (nd t) 1 σ (layS σ t).1) : ∀ i, i ≤ l.length → LayG (nd.ndL (l.take i)) i σ (layA σ at' 0 (l.take i))
  | 0, _ => by rw [List.take_zero, layA, nd.ndL]; exact LayG.refl σ
  | i + 1, hi => by
    have ih := zan (σ := σ) (at' := at') hl i (by omega)
    have hlt : i < l.length := by omega
    rw [z4x hlt]
    have h2 := ih.trans (hl l[i] (List.getElem_mem hlt) (layA σ at' 0 (l.take i)))
    have en : nd.ndL (l.take (i + 1)) = nd.ndL (l.take i) + nd l[i] := by
      rw [← List.take_append_getElem hlt]
      have app : ∀ (a b : List Tm), nd.ndL (a ++ b) = nd.ndL a + nd.ndL b := fun a b => by
        induction a with
        | nil => rw [nd.ndL]; simp
        | cons t a ih => rw [List.cons_append, nd.ndL, nd.ndL, ih]; omega
      rw [app, nd.ndL, nd.ndL, Nat.add_zero]
    rw [en]
    exact ⟨h2.vars, h2.flags, h2.trail, h2.marks, by rw [List.length_set]; exact h2.cells, by rw [List.length_set]; exact h2.own, h2.consts, h2.funs⟩
theorem z4y : ∀ l : List Tm, l.length ≤ nd.ndL l
  | [] => Nat.zero_le _
  | t :: l => by have := z4y l; have := z2a t; rw [nd.ndL, List.length_cons]; omega
theorem zao (σ : SS) (k : ByteArray × Int) (n : Nat) : (layH σ k n).vars = σ.vars ∧ (layH σ k n).flags = σ.flags ∧ (layH σ k n).trail = σ.trail ∧ (layH σ k n).marks = σ.marks ∧ (layH σ k n).cells.length = σ.cells.length + 1 + n ∧ (layH σ k n).own.length = σ.own.length + 1 + n ∧
    (layH σ k n).consts = σ.consts ∧ (layH σ k n).funs.length ≤ σ.funs.length + 1 := by
  have h := z1z σ k
  refine ⟨h.1, h.2.1, h.2.2.2.2.2.1, h.2.2.2.2.2.2.1, by simp [layH]; omega, by simp [layH]; omega, h.2.2.2.2.1, h.2.2.2.2.2.2.2⟩
theorem z7a : ∀ (m : Nat) (t : Tm), SizeOf.sizeOf t < m → ∀ σ, LayG (nd t) 1 σ (layS σ t).1
  | 0, _, h, _ => by omega
  | m + 1, t, h, σ => by
    have hn := z2a t
    by_cases k1 : t.kind = 1
    · rw [z5y k1]
      exact ⟨rfl, rfl, rfl, rfl, by simp only; omega, rfl, by simp only; omega, by simp only; omega⟩
    · by_cases k5 : t.kind = 5
      · rw [z4w k5]
        have hH := zao σ (t.name, (t.args.length : Int)) t.args.length
        have hA := zan (σ := layH σ (t.name, (t.args.length : Int)) t.args.length) (at' := σ.cells.length) (l := t.args) (fun u hu σ => z7a m u (by have := z0u hu; omega) σ) t.args.length (Nat.le_refl _)
        rw [List.take_length] at hA
        have hl := z4y t.args
        have hc := hH.2.2.2.2.1
        have ho := hH.2.2.2.2.2.1
        refine ⟨hA.vars.trans hH.1, hA.flags.trans hH.2.1, hA.trail.trans hH.2.2.1, hA.marks.trans hH.2.2.2.1, ?_, ?_, ?_, ?_⟩
        · have := hA.cells; rw [hc] at this; simp only; omega
        · have h1 := hA.cells; have h2 := hA.own; simp only; rw [hc] at h1 h2; rw [ho] at h2; omega
        · have := hA.consts; rw [hH.2.2.2.2.2.2.1] at this; simp only; omega
        · have := hA.funs; have := hH.2.2.2.2.2.2.2; simp only; omega
      · rw [z4v k1 k5]
        have hA := z5o σ t
        refine ⟨hA.1, hA.2.1, hA.2.2.2.2.2.1, hA.2.2.2.2.2.2.1, ?_, ?_, ?_, ?_⟩
        · simp only [hA.2.2.1]; omega
        · simp only [hA.2.2.1, hA.2.2.2.1]
        · have := hA.2.2.2.2.2.2.2; simp only; omega
        · simp only [hA.2.2.2.2.1]; omega
theorem z94 {t u : Tm} (h : u ∈ t.args) {v : Int} (hv : v ∈ occ u) : v ∈ occ t := by
  rw [z5m]
  refine List.mem_append_right _ ?_
  have : ∀ l : List Tm, u ∈ l → v ∈ occL l := fun l => by
    induction l with
    | nil => intro h; simp at h
    | cons w l ih =>
      intro h
      rw [occL]
      rcases List.mem_cons.1 h with rfl | h
      · exact List.mem_append_left _ hv
      · exact List.mem_append_right _ (ih h)
  exact this _ h
set_option maxHeartbeats 8000000 in
theorem zmz {H0 : Heap} {B s : Nat} (hw0 : H0.wf) (hB : H0.next ≤ B) : ∀ (m : Nat) {t : Tm} {cs : List Value} {H : Heap} {σ : SS}, SizeOf.sizeOf t < m → RepT H0 t cs → Fine t → HX H0 H → St H B s σ → (∀ v ∈ occ t, okV σ v) → σ.own.length = σ.cells.length →
    σ.cells.length + 2 * nd t ≤ most → σ.consts.length + nd t ≤ most → σ.funs.length + nd t ≤ most →
    EvF Tryd.prog okT 27 [.pointer (some ⟨s, 0, none⟩), .agg ⟨cs⟩] H fun r H' => r = .agg ⟨two (layS σ t).2⟩ ∧ St H' B s (layS σ t).1 ∧ SX s H H' := by
  intro m
  induction m with
  | zero => intro t cs H σ h; omega
  | succ m ih =>
  intro t cs H σ hsz r hfine hx0 hs hocc hol hmc hmk hmf
  have hw := hx0.wf
  have hs0 := hs.lt hw
  have hnd := z2a t
  obtain ⟨a, c, cells, rfl, -, -, -, -, -, rl⟩ := r.six
  have hmx := rl.max
  refine EvF.enter rfl Tryd.func27 (by decide) rfl ?_
  (repeat refine EvC.seq ?_); refine EvC.reg ?_; simp (config := { maxSteps := 2000000 }) (disch := first | omega | rfl) only [sB, initTm, dBox, dAlloc, Value.cells, one, reduceCtorEq, zr37]
  obtain ⟨H1, e1, hx1, g1, g1', n1, w1⟩ := new2 hw (.row (six t a c) 32) (.row (two (0, 0)) 37)
  simp only [e1]
  have q1 := row6 g1
  have hs1 := hs.keep hw hx1
  have nm1 := hs.fresh hw hx1 (Nat.le_refl _)
  have nm1' := hs.fresh hw hx1 (Nat.le_succ _)
  by_cases k1 : t.kind = 1
  · have hv := hocc t.var (by rw [z5m, if_pos k1]; simp)
    obtain ⟨n, en⟩ := Int.eq_ofNat_of_zero_le hv.1
    have hn : n < σ.vars.length := by have := hv.2.1; omega
    obtain ⟨H2, e2, hx2, w2⟩ := z36 w1 10
    have hs2 := hs1.keep w1 hx2
    obtain ⟨a0, c0, a1, c1, a2, c2, a3, c3, a4, c4, a5, c5, r6, r7, a8, c8, a9, c9, h, l0, l1, l2, l3, l4, l5, l6, l7, l8, l9, b0, b1, b2, b3, b4, b5, b8, b9⟩ := hs2.open
    obtain ⟨b, rfl, o, ld⟩ := h.el1 (i := 2) (k := n) (x := int1 (gi σ.vars n)) rfl rfl (by rw [List.getElem?_map, z85 hn]; rfl)
    have g2 := row6 (hx2.get w1 g1)
    have g2' := hx2.get w1 g1'
    rw [en] at g2
    repeat' (first | refine EvC.seq ?_ | refine EvC.scope ?_ | refine EvC.block ?_ | (refine EvC.skip ?_) | (refine EvC.exit ?_) | (refine EvC.ret ?_; try simp only [z01, z00]) | (refine EvC.reg ?_; simp (config := { maxSteps := 2000000 }) (disch := first | omega | rfl) only [sB, Nat.reduceEqDiff, reduceCtorEq, z3a, ld3, q1, z0y k1]) | (refine EvC.drw (id := 4) [([(0, 0), (1, 0), (2, 0), (3, 0), (4, 0), (5, 0), (6, 0), (7, 0), (8, 0)], some 9), ([], none)] ?_ ?_; kernel_rfl; simp (config := { maxSteps := 2000000 }) (disch := first | omega | rfl) only [sD, sB, Nat.reduceEqDiff, Nat.reduceAdd, Value.cells, one, reduceCtorEq, Nat.reduceLeDiff, layC, ld3, z2e, ld47, za8, ia47, bd37, st37, z05, z08, e2, l2, ld, g2, g2', isAlloc, isRead, reduceCtorEq]) | (refine EvC.condT ?_ ?_; simp (config := { maxSteps := 2000000 }) (disch := first | omega | rfl) only [sB, Nat.reduceEqDiff, reduceCtorEq]; refine z02 ?_))
    refine z0q rfl (by simp only [sB, Nat.reduceEqDiff, reduceCtorEq] <;> rfl) (by simp only [sB, Nat.reduceAdd, cutC, ld37] <;> rfl) ?_
    rw [z5y k1, en]
    have hxx := (hx1.trans hx2).pt (by omega) g2' (some (.row (two (2, gi σ.vars n)) 37))
    exact ⟨rfl, hs.keep hw hxx, hxx.sx hs0⟩
  by_cases k5 : t.kind = 5
  · have hlen : t.args.length ≤ 64 := z5x hfine
    have hll := z4y t.args
    obtain ⟨a0, c0, a1, c1, a2, c2, a3, c3, a4, c4, a5, c5, r6, r7, a8, c8, a9, c9, h, l0, l1, l2, l3, l4, l5, l6, l7, l8, l9, b0, b1, b2, b3, b4, b5, b8, b9⟩ := hs1.open
    repeat' (first | refine EvC.seq ?_ | refine EvC.scope ?_ | refine EvC.block ?_ | (refine EvC.skip ?_; try simp only [sA]) | (refine EvC.exit ?_) | (refine EvC.ret ?_; try simp only [z01, z00]) | (refine EvC.reg ?_; simp (config := { maxSteps := 2000000 }) (disch := first | omega | rfl) only [sB, Nat.reduceEqDiff, Nat.reduceAdd, Value.cells, one, reduceCtorEq, Nat.reduceLeDiff, layC, z3a, ld3, bd37, z15, ld28, ln28, z5k, ld9, z3h, ld22, ln22, bd49, cl36, z05, z08, q1, l0, z0n k1, z0y k5]) | (refine EvC.condT ?_ ?_; simp (config := { maxSteps := 2000000 }) (disch := first | omega | rfl) only [sB, Nat.reduceEqDiff, reduceCtorEq]; refine z02 ?_) | (refine EvC.condF ?_ ?_; simp (config := { maxSteps := 2000000 }) (disch := first | omega | rfl) only [sB, Nat.reduceEqDiff, reduceCtorEq]; refine z02 ?_))
    refine (zes (k := (t.name, (t.args.length : Int))) hs1 w1 (by omega)).mono ?_
    rintro r H2 ⟨rfl, hs2, hx2⟩
    have hF := z1z σ (t.name, (t.args.length : Int))
    repeat' (first | refine EvC.seq ?_ | refine EvC.scope ?_ | refine EvC.block ?_ | (refine EvC.skip ?_) | (refine EvC.exit ?_) | (refine EvC.ret ?_; try simp only [z01, z00]) | (refine z0l ?_; simp (config := { maxSteps := 2000000 }) (disch := first | omega | rfl) only [sB, Nat.reduceEqDiff, Nat.reduceAdd, one, reduceCtorEq, cl22]))
    refine (zbx (c := (5, ((functorS σ (t.name, (t.args.length : Int))).2 : Int))) (o := -1) hs2 hx2.wf (by rw [hF.2.2.1]; omega) (by rw [hF.2.2.2.1]; omega)).mono ?_
    rintro r H3 ⟨hs3, hx3⟩
    have hx13 := hx2.trans hx3
    have g3 := hx13.own w1 nm1 g1
    have g3' := hx13.own w1 nm1' g1'
    have nm3 := hx13.nm (w1 _ _ g1) nm1
    have nm3' := hx13.nm (w1 _ _ g1') nm1'
    have q3 := row6 g3
    repeat' (first | refine EvC.seq ?_ | refine EvC.scope ?_ | refine EvC.block ?_ | (refine EvC.skip ?_) | (refine EvC.exit ?_) | (refine EvC.ret ?_; try simp only [z01, z00]) | (refine EvC.reg ?_; simp (config := { maxSteps := 2000000 }) (disch := first | omega | rfl) only [sB, Nat.reduceEqDiff, reduceCtorEq, z3h, ld22, ln22, q3]))
    have hH0 : layH σ (t.name, (t.args.length : Int)) 0 = { (functorS σ (t.name, (t.args.length : Int))).1 with cells := (functorS σ (t.name, (t.args.length : Int))).1.cells ++ [(5, ((functorS σ (t.name, (t.args.length : Int))).2 : Int))], own := (functorS σ (t.name, (t.args.length : Int))).1.own ++ [-1] } := by
      rw [layH, hF.2.2.1, hF.2.2.2.1]; simp
    have hHs : ∀ i, layH σ (t.name, (t.args.length : Int)) (i + 1) = { layH σ (t.name, (t.args.length : Int)) i with cells := (layH σ (t.name, (t.args.length : Int)) i).cells ++ [(0, 0)], own := (layH σ (t.name, (t.args.length : Int)) i).own ++ [-2] } := fun i => by
      simp [layH, List.replicate_succ']
    have hHg := zao σ (t.name, (t.args.length : Int))
    rw [← hH0] at hs3
    refine EvC.loop (fun k st => ∃ tm H' i, st = ⟨tm, [], H'⟩ ∧ k = t.args.length - i ∧ i ≤ t.args.length ∧ tm.get 0 = some (.pointer (some ⟨s, 0, none⟩)) ∧ tm.get 3 = some (.pointer (some ⟨H.next, 0, none⟩)) ∧ tm.get 4 = some (.pointer (some ⟨H.next + 1, 0, none⟩)) ∧ tm.get 5 = some (.int .i64 σ.cells.length) ∧
        tm.get 46 = some (.int .i64 t.args.length) ∧ tm.get 47 = some (.int .i64 (i : Nat)) ∧ St H' B s (layH σ (t.name, (t.args.length : Int)) i) ∧ SX s H1 H') ?_ t.args.length _ ?_
    · rintro k st ⟨tm, H', i, rfl, rfl, hi, t0, t3, t4, t5, t46, t47, hs', hx'⟩
      by_cases hlt : i < t.args.length
      · repeat' (first | refine EvC.seq ?_ | refine EvC.scope ?_ | refine EvC.block ?_ | (refine EvC.skip ?_; try simp only [z04]) | (refine EvC.exit ?_) | (refine EvC.ret ?_; try simp only [z01, z00]) | (refine EvC.reg ?_; simp (config := { maxSteps := 2000000 }) (disch := first | omega | rfl) only [sB, Nat.reduceEqDiff, Value.cells, reduceCtorEq, layC, bd37, cl22, t0, t46, t47, decl hlt]) | (refine EvC.condT ?_ ?_; simp (config := { maxSteps := 2000000 }) (disch := first | omega | rfl) only [sB]; refine z02 ?_))
        have hg := hHg i
        refine (zbx (c := (0, 0)) (o := -2) hs' hx'.wf (by rw [hg.2.2.2.2.1]; omega) (by rw [hg.2.2.2.2.2.1]; omega)).mono ?_
        rintro r H4 ⟨hs4, hx4⟩
        rw [← hHs] at hs4
        repeat' (first | refine EvC.seq ?_ | refine EvC.scope ?_ | refine EvC.block ?_ | (refine EvC.skip ?_) | (refine EvC.exit ?_) | (refine EvC.ret ?_; try simp only [z01, z00]) | (refine EvC.reg ?_; simp (config := { maxSteps := 2000000 }) (disch := first | omega | rfl) only [sB, Nat.reduceEqDiff, t47, z0c]))
        exact ⟨_, by omega, _, _, i + 1, rfl, rfl, by omega, (by simp only [sG, reduceCtorEq, t0] <;> rfl), (by simp only [sG, Nat.reduceEqDiff, t3] <;> rfl), (by simp only [sG, Nat.reduceEqDiff, t4] <;> rfl), (by simp only [sG, Nat.reduceEqDiff, t5] <;> rfl), (by simp only [sG, Nat.reduceEqDiff, t46] <;> rfl), (by simp only [sB, Nat.reduceEqDiff] <;> rfl), hs4, hx'.trans hx4⟩
      · obtain rfl : i = t.args.length := by omega
        have g4 := hx'.own w1 nm1 g1
        have q4 := row6 g4
        repeat' (first | refine EvC.seq ?_ | refine EvC.scope ?_ | refine EvC.block ?_ | (refine EvC.skip ?_) | (refine EvC.exit ?_; try simp only [sB]) | (refine EvC.ret ?_; try simp only [z01, z00]) | (refine EvC.reg ?_; simp (config := { maxSteps := 2000000 }) (disch := first | omega | rfl) only [sB, Nat.reduceEqDiff, z3h, ld22, ln22, t3, t46, t47, q4, decn hlt]) | (refine EvC.condT ?_ ?_; simp (config := { maxSteps := 2000000 }) (disch := first | omega | rfl) only [sB]; refine z02 ?_) | (refine EvC.condF ?_ ?_; simp (config := { maxSteps := 2000000 }) (disch := first | omega | rfl) only [sB]; refine z02 ?_))
        have hAg := fun j => zan (σ := layH σ (t.name, (t.args.length : Int)) t.args.length) (at' := σ.cells.length) (l := t.args) (fun u _ σ => z7a _ u (Nat.lt_succ_self _) σ) j
        have hg := hHg t.args.length
        refine EvC.loop (fun k st => ∃ tm H' i, st = ⟨tm, [], H'⟩ ∧ k = t.args.length - i ∧ i ≤ t.args.length ∧ tm.get 0 = some (.pointer (some ⟨s, 0, none⟩)) ∧ tm.get 4 = some (.pointer (some ⟨H.next + 1, 0, none⟩)) ∧ tm.get 5 = some (.int .i64 σ.cells.length) ∧
            tm.get 54 = some (.slice a t.args.length c) ∧ tm.get 55 = some (.int .i64 t.args.length) ∧ tm.get 56 = some (.int .i64 (i : Nat)) ∧ St H' B s (layA (layH σ (t.name, (t.args.length : Int)) t.args.length) σ.cells.length 0 (t.args.take i)) ∧ SX s H1 H') ?_ t.args.length _ ?_
        · rintro k st ⟨tm, H', i, rfl, rfl, hi, t0, t4, t5, t54, t55, t56, hs', hx'⟩
          have hx0' : HX H0 H' := hs1.hx (hx0.trans hx1) hB hx'
          have hA := hAg i hi
          by_cases hlt : i < t.args.length
          · obtain ⟨b, o, a1, c1, rfl, hld, hr1⟩ := rl.el hlt
            have hld1 := hx0'.load hw0 hld
            have hnl : nd.ndL (t.args.take i) + nd t.args[i] + (t.args.length - (i + 1)) ≤ nd.ndL t.args := by
              have app : ∀ (a b : List Tm), nd.ndL (a ++ b) = nd.ndL a + nd.ndL b := fun a b => by
                induction a with
                | nil => rw [nd.ndL]; simp
                | cons t a ih => rw [List.cons_append, nd.ndL, nd.ndL, ih]; omega
              have e1 : t.args = t.args.take i ++ t.args[i] :: t.args.drop (i + 1) := by
                rw [← List.drop_eq_getElem_cons hlt, List.take_append_drop]
              have e2 : nd.ndL t.args = nd.ndL (t.args.take i) + (nd t.args[i] + nd.ndL (t.args.drop (i + 1))) := by
                conv => lhs; rw [e1]
                rw [app, nd.ndL]
              have e3 := z4y (t.args.drop (i + 1))
              rw [List.length_drop] at e3
              omega
            have hAl := hA.cells
            have hAo := hA.own
            have hAk := hA.consts
            have hAf := hA.funs
            rw [hg.2.2.2.2.1] at hAl hAo
            rw [hg.2.2.2.2.2.1] at hAo
            rw [hg.2.2.2.2.2.2.1] at hAk
            have hgf := hg.2.2.2.2.2.2.2
            have hol2 : (layA (layH σ (t.name, (t.args.length : Int)) t.args.length) σ.cells.length 0 (t.args.take i)).own.length = (layA (layH σ (t.name, (t.args.length : Int)) t.args.length) σ.cells.length 0 (t.args.take i)).cells.length := by
              clear hg hA hAl hAk hAf
              omega
            obtain ⟨H4, e4, hx4, g4, hn4, hw4⟩ := z29 hx'.wf (.row zero6 32) (.row (six t.args[i] a1 c1) 32)
            have q4 := row6 g4
            repeat' (first | refine EvC.seq ?_ | refine EvC.scope ?_ | refine EvC.block ?_ | (refine EvC.skip ?_; try simp only [z04]) | (refine EvC.exit ?_) | (refine EvC.ret ?_; try simp only [z01, z00]) | (refine EvC.reg ?_; simp (config := { maxSteps := 2000000 }) (disch := first | omega | rfl) only [sB, dAlloc, Nat.reduceEqDiff, Nat.reduceAdd, one, reduceCtorEq, zr37, ld32, ia22, zr32, st32, cl27, t0, t54, t55, t56, decl hlt, hld1, e4, q4]) | (refine EvC.condT ?_ ?_; simp (config := { maxSteps := 2000000 }) (disch := first | omega | rfl) only [sB]; refine z02 ?_))
            have hsz' := z2s (List.getElem?_eq_getElem hlt)
            generalize hτ : layA (layH σ (t.name, (t.args.length : Int)) t.args.length) σ.cells.length 0 (t.args.take i) = τ at *
            refine (ih (σ := τ) (by omega) hr1 (hfine.args _ (List.getElem_mem hlt)) (hx0'.trans hx4) (hs'.keep hx'.wf hx4) (fun v hv => ?_) hol2 (by omega) (by omega) (by omega)).mono ?_
            · have := hocc v (z94 (List.getElem_mem hlt) hv)
              have ev := hA.vars.trans hg.1
              unfold okV at this ⊢
              rw [ev]; exact this
            rintro r H5 ⟨rfl, hs5, hx5⟩
            obtain ⟨H6, e6, hx6, g6, hn6, hw6⟩ := z29 hx5.wf (.row [.int .i64 0, .int .i64 0] 37) (.row (two (layS τ t.args[i]).2) 37)
            have hs6 := hs5.keep hx5.wf hx6
            obtain ⟨H7, e7, hx7, w7⟩ := z36 hw6 11
            have hs7 := hs6.keep hw6 hx7
            have q7 := z14 (hx7.get hw6 g6)
            obtain ⟨a0, c0, a1, c1, a2, c2, a3, c3, a4, c4, a5, c5, r6, r7, a8, c8, a9, c9, h, l0, l1, l2, l3, l4, l5, l6, l7, l8, l9, b0, b1, b2, b3, b4, b5, b8, b9⟩ := hs7.open
            have hlS := (z7a _ t.args[i] (Nat.lt_succ_self _) τ).cells
            have hkl : σ.cells.length + 1 + i < (layS τ t.args[i]).1.cells.length := by omega
            obtain ⟨b3, cs, rfl, o3, gb, hle⟩ := h.row (i := 0) (k := σ.cells.length + 1 + i) rfl rfl (by simpa using hkl)
            obtain ⟨H8, e8, s8, x8⟩ := h.write (i := 0) (k := σ.cells.length + 1 + i) (y := two (layS τ t.args[i]).2) w7 rfl rfl (by simpa using hkl) gb rfl rfl
            have hs8 : St H8 B s { (layS τ t.args[i]).1 with cells := (layS τ t.args[i]).1.cells.set (σ.cells.length + 1 + i) (layS τ t.args[i]).2 } := ⟨_, by simpa [flds, List.map_set] using s8⟩
            clear s8
            have hle' : (σ.cells.length + 1 + i) * 2 + 2 ≤ cs.length := by rw [List.length_map] at hle; omega
            have hmm : most = 1048576 := rfl
            have ew1 : IntKind.i64.wrap ((σ.cells.length : Int) + 1) = ((σ.cells.length + 1 : Nat) : Int) := by rw [z0c] <;> omega
            have ew2 : IntKind.i64.wrap (((σ.cells.length + 1 : Nat) : Int) + (i : Int)) = ((σ.cells.length + 1 + i : Nat) : Int) := by rw [z0c] <;> omega
            have ew3 : IntKind.i64.wrap ((i : Int) + 1) = ((i + 1 : Nat) : Int) := by rw [z0c] <;> omega
            repeat' (first | refine EvC.seq ?_ | refine EvC.scope ?_ | refine EvC.block ?_ | (refine EvC.skip ?_) | (refine EvC.exit ?_) | (refine EvC.ret ?_; try simp only [z01, z00]) | (refine EvC.reg ?_; simp (config := { maxSteps := 2000000 }) (disch := first | omega | rfl) only [sB, Nat.reduceEqDiff, t56, ew3]) | (refine EvC.drw (id := 16) [([(0, 0), (1, 0), (2, 0), (3, 0), (4, 0), (5, 0), (6, 0), (7, 0), (8, 0), (9, 0)], some 10), ([], none)] ?_ ?_; kernel_rfl; simp (config := { maxSteps := 2000000 }) (disch := first | omega | rfl) only [sD, sB, Nat.reduceEqDiff, Nat.reduceAdd, one, reduceCtorEq, st37, z15, ld28, ld37, ia28, z05, z08, t0, t5, e7, q7, l0, ew1, ew2, gb, hle', e8, isAlloc, isRead, reduceCtorEq]) | (refine z0l ?_; simp (config := { maxSteps := 2000000 }) (disch := first | omega | rfl) only [sB, Nat.reduceAdd, one, st37, e6]))
            rw [← hτ] at hs8
            refine ⟨_, by omega, _, _, i + 1, rfl, rfl, by omega, (by simp only [sG, reduceCtorEq, t0] <;> rfl), (by simp only [sG, Nat.reduceEqDiff, t4] <;> rfl), (by simp only [sG, Nat.reduceEqDiff, t5] <;> rfl), (by simp only [sG, Nat.reduceEqDiff, t54] <;> rfl), (by simp only [sG, Nat.reduceEqDiff, t55] <;> rfl), (by simp only [sG, Nat.reduceEqDiff] <;> rfl), ?_, hx'.trans (((hx4.sx (hs'.lt hx'.wf)).trans hx5).trans (((hx6.trans hx7).sx (hs5.lt hx5.wf)).trans x8))⟩
            rw [z4x hlt]; exact hs8
          · obtain rfl : i = t.args.length := by omega
            rw [List.take_length] at hs'
            have g4 := hx'.own w1 nm1' g1'
            repeat' (first | refine EvC.seq ?_ | refine EvC.scope ?_ | refine EvC.block ?_ | (refine EvC.skip ?_) | (refine EvC.exit ?_; try simp only [sB]) | (refine EvC.ret ?_; try simp only [z01, z00]) | (refine EvC.reg ?_; simp (config := { maxSteps := 2000000 }) (disch := first | omega | rfl) only [sB, Nat.reduceEqDiff, Nat.reduceAdd, Value.cells, one, Nat.reduceLeDiff, layC, bd37, st37, t4, t5, t55, t56, g4, decn hlt]) | (refine EvC.condT ?_ ?_; simp (config := { maxSteps := 2000000 }) (disch := first | omega | rfl) only [sB]; refine z02 ?_) | (refine EvC.condF ?_ ?_; simp (config := { maxSteps := 2000000 }) (disch := first | omega | rfl) only [sB]; refine z02 ?_))
            refine z0q rfl (by simp only [sB, Nat.reduceEqDiff, t4] <;> rfl) (by simp only [sB, Nat.reduceAdd, cutC, ld37] <;> rfl) ?_
            rw [z4w k5]
            have l2' := hx'.wf _ _ g4
            have nm2 := hx'.nm (w1 _ _ g1') nm1'
            exact ⟨rfl, (hs'.box hx'.wf l2' nm2 _).1, ((hx1.sx hs0).trans hx').box (Nat.le_succ _) l2' nm2 _⟩
        · refine ⟨_, _, 0, rfl, rfl, by omega, (by simp only [sG, reduceCtorEq, t0] <;> rfl), (by simp only [sG, Nat.reduceEqDiff, t4] <;> rfl), (by simp only [sG, Nat.reduceEqDiff, t5] <;> rfl), (by simp only [sG, Nat.reduceEqDiff] <;> rfl), (by simp only [sG, Nat.reduceEqDiff] <;> rfl), (by simp only [sB, Nat.reduceEqDiff] <;> rfl), ?_, hx'⟩
          rw [List.take_zero, layA]; exact hs'
    · exact ⟨_, _, 0, rfl, rfl, by omega, (by simp only [sG, reduceCtorEq] <;> rfl), (by simp only [sG, Nat.reduceEqDiff, reduceCtorEq] <;> rfl), (by simp only [sG, Nat.reduceEqDiff, reduceCtorEq] <;> rfl), (by simp only [sG, Nat.reduceEqDiff, reduceCtorEq] <;> rfl), (by simp only [sG, Nat.reduceEqDiff, reduceCtorEq] <;> rfl), (by simp only [sB, Nat.reduceEqDiff, reduceCtorEq] <;> rfl), hs3, hx13⟩
  · have hk := z3j hfine.node
    have hargs : t.args = [] := (z1v hk.2.2.1).2.2.2.2 k5
    repeat' (first | refine EvC.seq ?_ | refine EvC.scope ?_ | refine EvC.block ?_ | (refine EvC.skip ?_) | (refine EvC.exit ?_) | (refine EvC.ret ?_; try simp only [z01, z00]) | (refine EvC.reg ?_; simp (config := { maxSteps := 2000000 }) (disch := first | omega | rfl) only [sB, Nat.reduceEqDiff, Nat.reduceAdd, Value.cells, one, reduceCtorEq, Nat.reduceLeDiff, layC, z3a, ld3, bd37, ld32, cl35, q1, z0n k1, z0n k5]) | (refine EvC.condT ?_ ?_; simp (config := { maxSteps := 2000000 }) (disch := first | omega | rfl) only [sB, Nat.reduceEqDiff, reduceCtorEq]; refine z02 ?_) | (refine EvC.condF ?_ ?_; simp (config := { maxSteps := 2000000 }) (disch := first | omega | rfl) only [sB, Nat.reduceEqDiff, reduceCtorEq]; refine z02 ?_))
    refine (zhc hs1 w1 hargs (by omega)).mono ?_
    rintro r H2 ⟨rfl, hs2, hx2⟩
    have g2' := hx2.own w1 nm1' g1'
    repeat' (first | refine EvC.seq ?_ | refine EvC.scope ?_ | refine EvC.block ?_ | (refine EvC.skip ?_) | (refine EvC.exit ?_) | (refine EvC.ret ?_; try simp only [z01, z00]) | (refine z0l ?_; simp (config := { maxSteps := 2000000 }) (disch := first | omega | rfl) only [sB, Nat.reduceEqDiff, Nat.reduceAdd, one, reduceCtorEq, st37, g2']))
    refine z0q rfl (by simp only [sB, Nat.reduceEqDiff, reduceCtorEq] <;> rfl) (by simp only [sB, Nat.reduceAdd, cutC, ld37] <;> rfl) ?_
    rw [z4v k1 k5]
    have l2' := hx2.wf _ _ g2'
    have nm2 := hx2.nm (w1 _ _ g1') nm1'
    exact ⟨rfl, (hs2.box hx2.wf l2' nm2 _).1, ((hx1.sx hs0).trans hx2).box (Nat.le_succ _) l2' nm2 _⟩
end Go.Proofs.YthkogijbkachdaaDoor.hb
end

-- Z1
section
namespace Go.Proofs.YthkogijbkachdaaDoor.hb
open Go Go.RowKit Go.Hb
variable {ok : Ok}
set_option maxRecDepth 10000
attribute [local irreducible] LX LG EL STG SOP SGO SGD SAL SRD SEF SEG SLK SCK ES
def cmpZ (a b : Int) : Int := if a < b then -1 else if b < a then 1 else 0
def lessS (a b : ByteArray) : Bool := Op.bytesLess a.toList b.toList
def cmpS (a b : ByteArray) : Int := if lessS a b then -1 else if lessS b a then 1 else 0
end Go.Proofs.YthkogijbkachdaaDoor.hb
end

-- Z2
section
namespace Go.Proofs.YthkogijbkachdaaDoor.hb
open Go Go.RowKit Go.Hb
variable {ok : Ok}
set_option maxRecDepth 10000
attribute [local irreducible] LX LG EL STG SOP SGO SGD SAL SRD SEF SEG SLK SCK ES
def rankZ (k : Int) : Int := if k = 1 then 0 else if k = 4 then 1 else if k = 3 then 2 else if k = 2 then 3 else 4
end Go.Proofs.YthkogijbkachdaaDoor.hb
end

-- Z3
section
namespace Go.Proofs.YthkogijbkachdaaDoor.hb
open Go Go.RowKit Go.Hb
variable {ok : Ok}
set_option maxRecDepth 10000
attribute [local irreducible] LX LG EL STG SOP SGO SGD SAL SRD SEF SEG SLK SCK ES
def numZ (a b : ByteArray) : Int :=
  if negS (bl a) && !negS (bl b) then -1 else if negS (bl b) && !negS (bl a) then 1
  else if negS (bl a) then -(orZ (cmpZ a.size b.size) (cmpS a b)) else orZ (cmpZ a.size b.size) (cmpS a b)
theorem z2u (a b : Int) : -1 ≤ cmpZ a b ∧ cmpZ a b ≤ 1 := by
  unfold cmpZ; split
  · omega
  · split <;> omega
theorem z88 (a b : ByteArray) : -1 ≤ cmpS a b ∧ cmpS a b ≤ 1 := by
  unfold cmpS; split
  · omega
  · split <;> omega
theorem zap {x y : Int} (h : -1 ≤ x ∧ x ≤ 1) (h' : -1 ≤ y ∧ y ≤ 1) : -1 ≤ orZ x y ∧ orZ x y ≤ 1 := by
  unfold orZ; split <;> assumption
end Go.Proofs.YthkogijbkachdaaDoor.hb
end

-- Z4
section
namespace Go.Proofs.YthkogijbkachdaaDoor.hb
open Go Go.RowKit Go.Hb
variable {ok : Ok}
set_option maxRecDepth 10000
attribute [local irreducible] LX LG EL STG SOP SGO SGD SAL SRD SEF SEG SLK SCK ES
end Go.Proofs.YthkogijbkachdaaDoor.hb
end

-- Z5
section
namespace Go.Proofs.YthkogijbkachdaaDoor.hb
open Go Go.RowKit Go.Hb
variable {ok : Ok}
set_option maxRecDepth 10000
attribute [local irreducible] LX LG EL STG SOP SGO SGD SAL SRD SEF SEG SLK SCK ES
end Go.Proofs.YthkogijbkachdaaDoor.hb
end

-- Z6
section
namespace Go.Proofs.YthkogijbkachdaaDoor.hb
open Go Go.RowKit Go.Hb
variable {ok : Ok}
set_option maxRecDepth 10000
attribute [local irreducible] LX LG EL STG SOP SGO SGD SAL SRD SEF SEG SLK SCK ES
def iOr (k : IntKind) (a b : Int) : Int := k.wrap (BitVec.ofInt k.bits a ||| BitVec.ofInt k.bits b).toNat
def iNot (a : Int) : Int := IntKind.u64.wrap (BitVec.ofInt IntKind.u64.bits IntKind.u64.max ^^^ BitVec.ofInt IntKind.u64.bits a).toNat
def keyF (n : Int) : Int := if 9223372036854775808 ≤ n then 18446744073709551615 - n else n + 9223372036854775808
def fltZ (a b : Int) : Int := cmpZ (keyF a) (keyF b)
end Go.Proofs.YthkogijbkachdaaDoor.hb
end

-- Z7
section
namespace Go.Proofs.YthkogijbkachdaaDoor.hb
open Go Go.RowKit Go.Hb
variable {ok : Ok}
set_option maxRecDepth 10000
attribute [local irreducible] LX LG EL STG SOP SGO SGD SAL SRD SEF SEG SLK SCK ES
def ordF (a b : Nat) : Option Ordering := FloatKind.f64.format.order a b
def fltO (a b : Nat) : Int := if ordF a b == some .lt then -1 else if ordF a b == some .gt then 1 else 0
end Go.Proofs.YthkogijbkachdaaDoor.hb
end

-- Z8
section
namespace Go.Proofs.YthkogijbkachdaaDoor.hb
open Go Go.RowKit Go.Hb
def expF (g : Nat) : Nat := g / 4503599627370496 - 1
def manF (g : Nat) : Nat := if g < 4503599627370496 then g else 4503599627370496 + g % 4503599627370496
def valF (g : Nat) : Nat := manF g * 2 ^ expF g
def svF (s : Bool) (x : Nat) : Int := if s then -(x : Int) else x
def sgnF (v : Nat) : Int := svF (v / 9223372036854775808 % 2 == 1) (valF (v % 9223372036854775808))
end Go.Proofs.YthkogijbkachdaaDoor.hb
end

-- Z9
section
namespace Go.Proofs.YthkogijbkachdaaDoor.hb
open Go Go.RowKit Go.Hb
mutual
def ordT : Tm → Tm → Int
  | .mk k s u b v l, .mk k' s' u' b' v' l' =>
    if k ≠ k' then cmpZ (rankZ k) (rankZ k')
    else if k = 1 then cmpZ v v'
    else if k = 3 then numZ u u'
    else if k = 4 then fltZ b b'
    else if orZ (cmpZ l.length l'.length) (cmpS s s') = 0 then ordL l l' else orZ (cmpZ l.length l'.length) (cmpS s s')
def ordL : List Tm → List Tm → Int
  | [], _ => 0
  | _ :: _, [] => 0
  | t :: l, t' :: l' => if ordT t t' = 0 then ordL l l' else ordT t t'
end
def headZ (t t' : Tm) : Int := orZ (cmpZ t.args.length t'.args.length) (cmpS t.name t'.name)
end Go.Proofs.YthkogijbkachdaaDoor.hb
end

-- Z11
section
namespace Go.Proofs.YthkogijbkachdaaDoor.hb
open Go Go.RowKit Go.Hb
def TT (x y z : Int) : Prop := (x ≤ 0 → y ≤ 0 → z ≤ 0) ∧ (0 ≤ x → 0 ≤ y → 0 ≤ z) ∧ (x < 0 → y ≤ 0 → z < 0) ∧ (x ≤ 0 → y < 0 → z < 0) ∧ (0 < x → 0 ≤ y → 0 < z) ∧ (0 ≤ x → 0 < y → 0 < z)
theorem TT.or {x1 y1 z1 x2 y2 z2 : Int} (h1 : TT x1 y1 z1) (h2 : x1 = 0 → y1 = 0 → TT x2 y2 z2) : TT (orZ x1 x2) (orZ y1 y2) (orZ z1 z2) := by
  unfold orZ TT at *
  by_cases a : x1 = 0 <;> by_cases b : y1 = 0
  · have c : z1 = 0 := by omega
    simp only [a, b, c, if_true]
    exact h2 a b
  · have c : z1 ≠ 0 := by omega
    simp only [a, b, c, if_true, if_false]
    omega
  · have c : z1 ≠ 0 := by omega
    simp only [a, b, c, if_true, if_false]
    omega
  · by_cases c : z1 = 0
    · simp only [a, b, c, if_true, if_false]; omega
    · simp only [a, b, c, if_false]; omega
theorem TT.neg {x y z : Int} (h : TT x y z) : TT (-x) (-y) (-z) := by unfold TT at *; omega
theorem TT.cmp (a b c : Int) : TT (cmpZ a b) (cmpZ b c) (cmpZ a c) := by
  unfold TT cmpZ
  by_cases h1 : a < b <;> by_cases h2 : b < a <;> by_cases h3 : b < c <;> by_cases h4 : c < b <;> by_cases h5 : a < c <;> by_cases h6 : c < a <;> simp only [h1, h2, h3, h4, h5, h6, if_true, if_false] <;> (refine ⟨?_, ?_, ?_, ?_, ?_, ?_⟩ <;> intros <;> omega)
theorem TT.zero : TT 0 0 0 := by unfold TT; omega
theorem z2v (a b : Int) : cmpZ b a = -(cmpZ a b) := by
  unfold cmpZ
  by_cases h1 : a < b <;> by_cases h2 : b < a <;> simp only [h1, h2, if_true, if_false] <;> omega
theorem z2w {a b : Int} : cmpZ a b = 0 ↔ a = b := by
  unfold cmpZ
  constructor
  · intro h; split at h
    · omega
    · split at h <;> omega
  · rintro rfl; simp
def cmpB (a b : List UInt8) : Int := if Op.bytesLess a b then -1 else if Op.bytesLess b a then 1 else 0
theorem z3v : cmpB [] [] = 0 := by simp [cmpB, Op.bytesLess]
theorem z3k {y : UInt8} {b : List UInt8} : cmpB [] (y :: b) = -1 := by simp [cmpB, Op.bytesLess]
theorem z3l {y : UInt8} {b : List UInt8} : cmpB (y :: b) [] = 1 := by simp [cmpB, Op.bytesLess]
theorem z2x {x y : UInt8} {a b : List UInt8} : cmpB (x :: a) (y :: b) = orZ (cmpZ x.toNat y.toNat) (cmpB a b) := by
  unfold cmpB
  simp only [Op.bytesLess]
  rcases Nat.lt_trichotomy x.toNat y.toNat with h | h | h
  · have h1 : x < y := UInt8.lt_iff_toNat_lt.2 h
    have hc : cmpZ (x.toNat : Int) y.toNat = -1 := by unfold cmpZ; rw [if_pos (by omega)]
    rw [hc]
    simp [h1, orZ]
  · obtain rfl : x = y := UInt8.toNat_inj.1 h
    have hc : cmpZ (x.toNat : Int) x.toNat = 0 := z2w.2 rfl
    rw [hc]
    simp [orZ]
  · have h1 : y < x := UInt8.lt_iff_toNat_lt.2 h
    have h2 : ¬ x < y := fun q => by have := UInt8.lt_iff_toNat_lt.1 q; omega
    have h3 : x ≠ y := fun q => by rw [q] at h; omega
    have hc : cmpZ (x.toNat : Int) y.toNat = 1 := by unfold cmpZ; rw [if_neg (by omega), if_pos (by omega)]
    rw [hc]
    simp [h1, h2, h3, orZ]
theorem TT.bytes : ∀ (a b c : List UInt8), TT (cmpB a b) (cmpB b c) (cmpB a c)
  | [], [], [] => by rw [z3v]; exact TT.zero
  | [], [], _ :: _ => by rw [z3v, z3k]; unfold TT; omega
  | [], _ :: _, [] => by rw [z3v, z3k, z3l]; unfold TT; omega
  | _ :: _, [], [] => by rw [z3v, z3l]; unfold TT; omega
  | _ :: _, [], _ :: _ => by rw [z3k, z3l]; unfold TT; omega
  | [], _ :: _, _ :: _ => by rw [z3k, z3k]; unfold TT; omega
  | _ :: _, _ :: _, [] => by rw [z3l, z3l]; unfold TT; omega
  | x :: a, y :: b, z :: c => by
    rw [z2x, z2x, z2x]
    exact TT.or (TT.cmp _ _ _) fun _ _ => TT.bytes a b c
theorem zaq : ∀ (a b : List UInt8), cmpB b a = -(cmpB a b)
  | [], [] => by rw [z3v]; rfl
  | [], _ :: _ => by rw [z3k, z3l]; rfl
  | _ :: _, [] => by rw [z3k, z3l]
  | x :: a, y :: b => by rw [z2x, z2x, z2v x.toNat y.toNat, zaq a b, zbv]
theorem z7b : ∀ {a b : List UInt8}, cmpB a b = 0 ↔ a = b
  | [], [] => by rw [z3v]; simp
  | [], _ :: _ => by rw [z3k]; simp
  | _ :: _, [] => by rw [z3l]; simp
  | x :: a, y :: b => by
    rw [z2x, z5w, z2w, z7b (a := a) (b := b), List.cons.injEq]
    constructor
    · rintro ⟨h1, h2⟩; exact ⟨UInt8.toNat_inj.1 (by omega), h2⟩
    · rintro ⟨h1, h2⟩; exact ⟨by rw [h1], h2⟩
theorem zar (a b : ByteArray) : cmpS b a = -(cmpS a b) := zaq a.toList b.toList
theorem z7c {a b : ByteArray} : cmpS a b = 0 ↔ a = b :=
  ⟨fun h => z5a (z7b.1 h), fun h => by subst h; exact z7b.2 rfl⟩
theorem zhh (a b : ByteArray) : numZ b a = -(numZ a b) := by
  have h : orZ (cmpZ (b.size : Int) a.size) (cmpS b a) = -(orZ (cmpZ (a.size : Int) b.size) (cmpS a b)) := by rw [z2v (a.size : Int), zar a b, zbv]
  unfold numZ
  rw [h]
  cases negS (bl a) <;> cases negS (bl b) <;> simp
theorem zhi {a b : ByteArray} : numZ a b = 0 ↔ a = b := by
  constructor
  · intro h
    have key : orZ (cmpZ (a.size : Int) b.size) (cmpS a b) = 0 := by
      revert h
      unfold numZ
      cases negS (bl a) <;> cases negS (bl b) <;> simp
    exact z7c.1 (z5w.1 key).2
  · rintro rfl
    unfold numZ
    have h : orZ (cmpZ (a.size : Int) a.size) (cmpS a a) = 0 := z5w.2 ⟨z2w.2 rfl, z7c.2 rfl⟩
    rw [h]
    cases negS (bl a) <;> simp
theorem zhj (a b : Int) : fltZ b a = -(fltZ a b) := z2v _ _
def restZ (t t' : Tm) : Int := if t.kind = 1 then cmpZ t.var t'.var else if t.kind = 3 then numZ t.num t'.num else if t.kind = 4 then fltZ t.bits t'.bits else orZ (headZ t t') (ordL t.args t'.args)
mutual
theorem zhk : ∀ (t t' : Tm), ordT t' t = -(ordT t t')
  | .mk k s u b v l, .mk k' s' u' b' v' l' => by
    rw [ordT, ordT]
    by_cases hk : k = k'
    · subst hk
      simp only [ne_eq, not_true_eq_false, if_false]
      split
      · exact z2v _ _
      split
      · exact zhh _ _
      split
      · exact zhj _ _
      have h : orZ (cmpZ (l'.length : Int) l.length) (cmpS s' s) = -(orZ (cmpZ (l.length : Int) l'.length) (cmpS s s')) := by rw [z2v (l.length : Int), zar s s', zbv]
      rw [h, zas l l']
      by_cases h0 : orZ (cmpZ (l.length : Int) l'.length) (cmpS s s') = 0
      · rw [if_pos (by omega), if_pos h0]
      · rw [if_neg (by omega), if_neg h0]
    · rw [if_pos (fun h => hk h.symm), if_pos hk]
      exact z2v _ _
theorem zas : ∀ (l l' : List Tm), ordL l' l = -(ordL l l')
  | [], [] => by simp [ordL]
  | [], _ :: _ => by simp [ordL]
  | _ :: _, [] => by simp [ordL]
  | t :: l, t' :: l' => by
    rw [ordL, ordL, zhk t t', zas l l']
    by_cases h0 : ordT t t' = 0
    · rw [if_pos (by omega), if_pos h0]
    · rw [if_neg (by omega), if_neg h0]
end
mutual
theorem zhl : ∀ (t : Tm), ordT t t = 0
  | .mk k s u b v l => by
    rw [ordT, if_neg (fun h => h rfl)]
    split
    · exact z2w.2 rfl
    split
    · exact zhi.2 rfl
    split
    · exact z2w.2 rfl
    rw [if_pos (z5w.2 ⟨z2w.2 rfl, z7c.2 rfl⟩)]
    exact zat l
theorem zat : ∀ (l : List Tm), ordL l l = 0
  | [] => by rw [ordL]
  | t :: l => by rw [ordL, if_pos (zhl t)]; exact zat l
end
inductive U64s : Tm → Prop
  | mk {t : Tm} : u64 t.bits → (∀ u ∈ t.args, U64s u) → U64s t
theorem U64s.bits {t : Tm} (h : U64s t) : u64 t.bits := by cases h; assumption
theorem U64s.args {t : Tm} (h : U64s t) : ∀ u ∈ t.args, U64s u := by cases h; assumption
theorem zet (a b : ByteArray) : -1 ≤ numZ a b ∧ numZ a b ≤ 1 := by
  have := zap (z2u a.size b.size) (z88 a b)
  unfold numZ
  split
  · omega
  split
  · omega
  split <;> omega
mutual
theorem zeu : ∀ (t t' : Tm), -1 ≤ ordT t t' ∧ ordT t t' ≤ 1
  | .mk k s u b v l, .mk k' s' u' b' v' l' => by
    rw [ordT]
    split
    · exact z2u _ _
    split
    · exact z2u _ _
    split
    · exact zet _ _
    split
    · exact z2u _ _
    split
    · exact z89 l l'
    · exact zap (z2u _ _) (z88 _ _)
theorem z89 : ∀ (l l' : List Tm), -1 ≤ ordL l l' ∧ ordL l l' ≤ 1
  | [], _ => by rw [ordL]; omega
  | _ :: _, [] => by rw [ordL]; omega
  | t :: l, t' :: l' => by
    rw [ordL]
    split
    · exact z89 l l'
    · exact zeu t t'
end
end Go.Proofs.YthkogijbkachdaaDoor.hb
end

-- Z10
section
namespace Go.Proofs.YthkogijbkachdaaDoor.hb
open Go Go.RowKit Go.Hb
variable {ok : Ok}
set_option maxRecDepth 10000
attribute [local irreducible] LX LG EL STG SOP SGO SGD SAL SRD SEF SEG SLK SCK ES
end Go.Proofs.YthkogijbkachdaaDoor.hb
end

-- Z12
section
namespace Go.Proofs.YthkogijbkachdaaDoor.hb
open Go Go.RowKit Go.Hb
variable {ok : Ok}
set_option maxRecDepth 10000
attribute [local irreducible] LX LG EL STG SOP SGO SGD SAL SRD SEF SEG SLK SCK ES
end Go.Proofs.YthkogijbkachdaaDoor.hb
end

-- Z14
section
namespace Go.Proofs.YthkogijbkachdaaDoor.hb
open Go Go.RowKit Go.Hb
variable {ok : Ok}
set_option maxRecDepth 10000
attribute [local irreducible] LX LG EL STG SOP SGO SGD SAL SRD SEF SEG SLK SCK ES
end Go.Proofs.YthkogijbkachdaaDoor.hb
end

-- U7a
section
namespace Go.Proofs.YthkogijbkachdaaDoor.hb
open Go Go.RowKit Go.Hb
variable {ok : Ok}
set_option maxRecDepth 10000
attribute [local irreducible] LX LG EL STG SOP SGO SGD SAL SRD SEF SEG SLK SCK ES
theorem zkk : ∀ (m : Nat) (t : Tm), SizeOf.sizeOf t < m → (occ t).length ≤ nd t
  | 0, _, h => by omega
  | m + 1, t, h => by
    have hl : ∀ l : List Tm, (∀ u ∈ l, (occ u).length ≤ nd u) → (occL l).length ≤ nd.ndL l := by
      intro l
      induction l with
      | nil => intro _; rw [occL, nd.ndL]; exact Nat.le_refl _
      | cons u l ih => intro hu; rw [occL, nd.ndL, List.length_append]; have := hu u (by simp); have := ih fun v hv => hu v (List.mem_cons_of_mem _ hv); omega
    have := hl t.args fun u hu => zkk m u (by have := z0u hu; omega)
    rw [z5m, z2a, List.length_append]
    split <;> simp <;> omega
theorem zhm {t : Tm} (h : checkS t = 0) : (occ t).length ≤ 4000 := by
  have h1 := (z3t.1 h).1
  have h2 := zhg _ t (Nat.lt_succ_self _) 0 h1
  have h3 := zkk _ t (Nat.lt_succ_self _)
  omega
theorem RepL.one {H : Heap} {t : Tm} {cs : List Value} {b : Nat} {T : TypeId} (r : RepT H t cs) (g : H.get b = some (.row cs T)) : RepL H [t] (some ⟨b, 0, none⟩) 1 (fun _ => cs) := by
  have h1 := r.len
  refine RepL.of_row g (fun i hi => ?_) (fun i u hu => ?_) (Nat.le_refl _) (by simp [maxLen])
  · match i, hi with
    | 0, _ => simp; exact List.take_of_length_le (by omega)
  · match i, hu with
    | 0, hu => cases hu; exact r
end Go.Proofs.YthkogijbkachdaaDoor.hb
end

-- Sg10
section
namespace Go.Proofs.YthkogijbkachdaaDoor.hb
open Go Go.RowKit Go.Hb
variable {ok : Ok}
set_option maxRecDepth 10000
attribute [local irreducible] LX LG EL STG SOP SGO SGD SAL SRD SEF SEG SLK SCK ES
open Classical in
noncomputable def layV (σ : SS) (t : Tm) : SS × (Int × Int) × Int := if checkS t ≠ 0 then (σ, (0, 0), checkS t) else if ∀ v ∈ occ t, okV σ v then ((layS σ t).1, (layS σ t).2, 0) else (σ, (0, 0), 133)
theorem zhn (l : List Int) (n : Int) : n ∈ uniq l ↔ n ∈ l := by
  have h : ∀ (l L : List Int), n ∈ l.foldl addU L ↔ n ∈ L ∨ n ∈ l := by
    intro l
    induction l with
    | nil => intro L; simp
    | cons m l ih =>
      intro L
      rw [List.foldl_cons, ih]
      have : n ∈ addU L m ↔ n ∈ L ∨ n = m := by
        unfold addU
        split
        · rename_i hm
          exact ⟨.inl, fun h => by rcases h with h | h; exact h; rw [h]; exact hm⟩
        · simp
      rw [this, List.mem_cons, or_assoc]
  have := h l []
  simpa [uniq] using this
theorem zdl {l : List Int} {v : Int} : v ∈ uniq l ↔ v ∈ l := zhn _ _
theorem z95 {t : Tm} {cs : List Value} {b : Nat} {H : Heap} (r : RepT H t cs) (g : H.get b = some (.row cs 32)) (hw : H.wf) :
    EvF Tryd.prog okT 25 [.slice (some ⟨b, 0, none⟩) 1 1] H fun v H' => ∃ u, v = .tuple #[u, .int .i64 (checkS t)] ∧ IntL H' 3 (Rg H.next H'.next) (if checkS t = 0 then uniq (occ t) else []) u ∧ HX H H' := by
  have rl := RepL.one r g
  have ec : chkL [t] = checkS t := by rw [chkL]; split; rename_i h; rw [h, chkL]; rfl
  have eo : occL [t] = occ t := by rw [occL, occL, List.append_nil]
  refine EvF.enter rfl Tryd.func25 (by decide) rfl ?_
  repeat' (first | refine EvC.seq ?_ | refine EvC.scope ?_ | refine EvC.block ?_ | (refine EvC.skip ?_) | (refine EvC.exit ?_) | (refine EvC.ret ?_; try simp only [z01, z00]) | (refine EvC.reg ?_; simp (config := { maxSteps := 2000000 }) (disch := first | omega | rfl) only [sB, initTm, Nat.reduceEqDiff, reduceCtorEq, cl33]))
  refine (zh3 rl hw).mono ?_
  rintro v H2 ⟨rfl, hx2⟩
  rw [ec]
  by_cases h0 : checkS t = 0
  · have hf := zhm h0
    repeat' (first | refine EvC.seq ?_ | refine EvC.scope ?_ | refine EvC.block ?_ | (refine EvC.skip ?_; try simp only [z04]) | (refine EvC.exit ?_) | (refine EvC.ret ?_; try simp only [z01, z00]) | (refine EvC.reg ?_; simp (config := { maxSteps := 2000000 }) (disch := first | omega | rfl) only [sB, Nat.reduceEqDiff, reduceCtorEq, cl34, z1l h0]) | (refine EvC.condT ?_ ?_; simp (config := { maxSteps := 2000000 }) (disch := first | omega | rfl) only [sB, Nat.reduceEqDiff, reduceCtorEq]; refine z02 ?_) | (refine EvC.condF ?_ ?_; simp (config := { maxSteps := 2000000 }) (disch := first | omega | rfl) only [sB, Nat.reduceEqDiff, reduceCtorEq]; refine z02 ?_))
    refine (zah (rl.mono hx2 hw) (by rw [eo]; unfold most; omega) hx2.wf).mono ?_
    rintro v H3 ⟨hi, hx3⟩
    rw [eo] at hi
    repeat' (first | refine EvC.seq ?_ | refine EvC.scope ?_ | refine EvC.block ?_ | (refine EvC.skip ?_) | (refine EvC.exit ?_) | (refine EvC.ret ?_; try simp only [z01, z00]))
    refine z1i rfl (by simp only [sB, Nat.reduceEqDiff, reduceCtorEq] <;> rfl) (by simp only [sB, Nat.reduceEqDiff, reduceCtorEq] <;> rfl) ⟨v, by rw [h0], ?_, hx2.trans hx3⟩
    rw [if_pos h0]
    rcases hi with h | ⟨b, c', h1, h2, h3, h4, h5⟩
    · exact .inl h
    · exact .inr ⟨b, c', h1, h2, h3, h4, by have := hx2.next; exact ⟨by have := h5.1; omega, h5.2⟩⟩
  · repeat' (first | refine EvC.seq ?_ | refine EvC.scope ?_ | refine EvC.block ?_ | (refine EvC.skip ?_) | (refine EvC.exit ?_) | (refine EvC.ret ?_; try simp only [z01, z00]) | (refine EvC.reg ?_; simp (config := { maxSteps := 2000000 }) (disch := first | omega | rfl) only [sB, Nat.reduceEqDiff, reduceCtorEq, z4o h0]) | (refine EvC.condT ?_ ?_; simp (config := { maxSteps := 2000000 }) (disch := first | omega | rfl) only [sB, Nat.reduceEqDiff, reduceCtorEq]; refine z02 ?_))
    exact z1i rfl (by simp only [sB, Nat.reduceEqDiff, reduceCtorEq] <;> rfl) (by simp only [sG, Nat.reduceEqDiff, reduceCtorEq] <;> rfl) ⟨_, rfl, by rw [if_neg h0]; exact .inl ⟨rfl, rfl⟩, hx2⟩
set_option maxHeartbeats 8000000 in
theorem zho {H0 : Heap} {B s : Nat} {t : Tm} {cs : List Value} {H : Heap} {σ : SS} (hw0 : H0.wf) (hB : H0.next ≤ B) (r : RepT H0 t cs) (hx0 : HX H0 H) (hs : St H B s σ) (hol : σ.own.length = σ.cells.length)
    (hb : checkS t = 0 → σ.cells.length + 2 * nd t ≤ most ∧ σ.consts.length + nd t ≤ most ∧ σ.funs.length + nd t ≤ most) :
    EvF Tryd.prog okT 10 [.pointer (some ⟨s, 0, none⟩), .agg ⟨cs⟩] H fun r H' => r = .tuple ⟨[.agg ⟨two (layV σ t).2.1⟩, .int .i64 (layV σ t).2.2]⟩ ∧ St H' B s (layV σ t).1 ∧ SX s H H' := by
  have hw := hx0.wf
  have hs0 := hs.lt hw
  obtain ⟨a, c, cells, rfl, -, -, -, -, -, rl⟩ := r.six
  have hmx := rl.max
  refine EvF.enter rfl Tryd.func10 (by decide) rfl ?_
  (repeat refine EvC.seq ?_); refine EvC.reg ?_; simp (config := { maxSteps := 2000000 }) (disch := first | omega | rfl) only [sB, initTm, dBox, dAlloc, Value.cells, one, reduceCtorEq, zr37]
  obtain ⟨H1, e1, hx1, g1, g1', n1, w1⟩ := new2 hw (.row (six t a c) 32) (.row (two (0, 0)) 37)
  simp only [e1]
  have q1 := row6 g1
  have hs1 := hs.keep hw hx1
  have nm1 := hs.fresh hw hx1 (Nat.le_refl _)
  have nm1' := hs.fresh hw hx1 (Nat.le_succ _)
  obtain ⟨H2, e2, hx2, g2, n2, w2⟩ := new1 w1 (.row (six t a c) 32)
  repeat' (first | refine EvC.seq ?_ | refine EvC.scope ?_ | refine EvC.block ?_ | (refine EvC.skip ?_; try simp only [z04]) | (refine EvC.exit ?_) | (refine EvC.ret ?_; try simp only [z01, z00]) | (refine EvC.reg ?_; simp (config := { maxSteps := 2000000 }) (disch := first | omega | rfl) only [sB, Nat.reduceEqDiff, Nat.reduceAdd, Value.cells, one, reduceCtorEq, layC, ld32, zg8, cl25, bEqP, q1, e2]) | (refine EvC.condT ?_ ?_; simp (config := { maxSteps := 2000000 }) (disch := first | omega | rfl) only [sB, Nat.reduceEqDiff, reduceCtorEq]; refine z02 ?_) | (refine EvC.condF ?_ ?_; simp (config := { maxSteps := 2000000 }) (disch := first | omega | rfl) only [sB, Nat.reduceEqDiff, reduceCtorEq]; refine z02 ?_))
  refine (z95 (r.mono (hx0.trans (hx1.trans hx2)) hw0) g2 w2).mono ?_
  rintro v H3 ⟨u, rfl, hI, hx3⟩
  have hx13 := hx2.trans hx3
  have hxx := hx1.trans hx13
  have g3 := hx13.get w1 g1
  have g3' := hx13.get w1 g1'
  have q3 := row6 g3
  have hs3 := hs.keep hw hxx
  by_cases h0 : checkS t = 0
  · rw [if_pos h0] at hI
    obtain ⟨va, vc, rfl, hvl, hvm⟩ := hI.slice
    have hfine := (z3t.1 h0).2
    have w3 := hxx.wf
    repeat' (first | refine EvC.seq ?_ | refine EvC.scope ?_ | refine EvC.block ?_ | (refine EvC.skip ?_; try simp only [z04]) | (refine EvC.exit ?_) | (refine EvC.ret ?_; try simp only [z01, z00]) | (refine EvC.reg ?_; simp (config := { maxSteps := 2000000 }) (disch := first | omega | rfl) only [sB, Nat.reduceEqDiff, reduceCtorEq, ln47, z1l h0]) | (refine z0l ?_; simp (config := { maxSteps := 2000000 }) (disch := first | omega | rfl) only [sB, Nat.reduceEqDiff, reduceCtorEq]) | (refine EvC.condT ?_ ?_; simp (config := { maxSteps := 2000000 }) (disch := first | omega | rfl) only [sB, Nat.reduceEqDiff, reduceCtorEq]; refine z02 ?_) | (refine EvC.condF ?_ ?_; simp (config := { maxSteps := 2000000 }) (disch := first | omega | rfl) only [sB, Nat.reduceEqDiff, reduceCtorEq]; refine z02 ?_))
    refine EvC.loop (fun k st => ∃ tm i, st = ⟨tm, [], H3⟩ ∧ k = (uniq (occ t)).length - i ∧ i ≤ (uniq (occ t)).length ∧ tm.get 0 = some (.pointer (some ⟨s, 0, none⟩)) ∧ tm.get 3 = some (.pointer (some ⟨H.next, 0, none⟩)) ∧ tm.get 4 = some (.pointer (some ⟨H.next + 1, 0, none⟩)) ∧
        tm.get 25 = some (.slice va (uniq (occ t)).length vc) ∧ tm.get 26 = some (.int .i64 (uniq (occ t)).length) ∧ tm.get 27 = some (.int .i64 (i : Nat)) ∧ ∀ v ∈ (uniq (occ t)).take i, okV σ v) ?_ (uniq (occ t)).length _ ?_
    · rintro k st ⟨tm, i, rfl, rfl, hi, t0, t3, t4, t25, t26, t27, hok⟩
      by_cases hlt : i < (uniq (occ t)).length
      · obtain ⟨vb, rfl, -, hld, -⟩ := hI.at hlt
        repeat' (first | refine EvC.seq ?_ | refine EvC.scope ?_ | refine EvC.block ?_ | (refine EvC.skip ?_; try simp only [z04]) | (refine EvC.exit ?_) | (refine EvC.ret ?_; try simp only [z01, z00]) | (refine EvC.reg ?_; simp (config := { maxSteps := 2000000 }) (disch := first | omega | rfl) only [sB, Nat.reduceEqDiff, reduceCtorEq, ia47, ld3, cl26, t0, t25, t26, t27, decl hlt, hld]) | (refine EvC.condT ?_ ?_; simp (config := { maxSteps := 2000000 }) (disch := first | omega | rfl) only [sB]; refine z02 ?_))
        refine (zlo hs3).mono ?_
        rintro r H' ⟨rfl, rfl⟩
        by_cases hv : okV σ (uniq (occ t))[i]
        · simp only [if_pos hv]
          have hul := zdf (occ t)
          have hof := zhm h0
          have ew : IntKind.i64.wrap ((i : Int) + 1) = ((i + 1 : Nat) : Int) := by rw [z0c] <;> omega
          repeat' (first | refine EvC.seq ?_ | refine EvC.scope ?_ | refine EvC.block ?_ | (refine EvC.skip ?_; try simp only [sA]) | (refine EvC.exit ?_) | (refine EvC.ret ?_; try simp only [z01, z00]) | (refine EvC.reg ?_; simp (config := { maxSteps := 2000000 }) (disch := first | omega | rfl) only [sB, Nat.reduceEqDiff, t27, z1l rfl, ew]) | (refine z0l ?_; simp (config := { maxSteps := 2000000 }) (disch := first | omega | rfl) only [sB, Nat.reduceEqDiff]) | (refine EvC.condT ?_ ?_; simp (config := { maxSteps := 2000000 }) (disch := first | omega | rfl) only [sB, Nat.reduceEqDiff]; refine z02 ?_) | (refine EvC.condF ?_ ?_; simp (config := { maxSteps := 2000000 }) (disch := first | omega | rfl) only [sB, Nat.reduceEqDiff]; refine z02 ?_))
          refine ⟨_, by omega, _, i + 1, rfl, rfl, by omega, (by simp only [sG, reduceCtorEq, t0] <;> rfl), (by simp only [sG, Nat.reduceEqDiff, t3] <;> rfl), (by simp only [sG, Nat.reduceEqDiff, t4] <;> rfl), (by simp only [sG, Nat.reduceEqDiff, t25] <;> rfl), (by simp only [sG, Nat.reduceEqDiff, t26] <;> rfl), (by simp only [sG, Nat.reduceEqDiff] <;> rfl), fun v hv' => ?_⟩
          rw [← List.take_append_getElem hlt] at hv'
          rcases List.mem_append.1 hv' with h | h
          · exact hok v h
          · rw [List.mem_singleton] at h; rw [h]; exact hv
        · simp only [if_neg hv]
          have d9 : ((133 : Int) != 0) = true := rfl
          repeat' (first | refine EvC.seq ?_ | refine EvC.scope ?_ | refine EvC.block ?_ | (refine EvC.skip ?_) | (refine EvC.exit ?_) | (refine EvC.ret ?_; try simp only [z01, z00]) | (refine EvC.reg ?_; simp (config := { maxSteps := 2000000 }) (disch := first | omega | rfl) only [sB, Nat.reduceEqDiff, Nat.reduceAdd, Value.cells, one, layC, bd37, st37, t4, d9, g3']) | (refine z0l ?_; simp (config := { maxSteps := 2000000 }) (disch := first | omega | rfl) only [sB, Nat.reduceEqDiff]) | (refine EvC.condT ?_ ?_; simp (config := { maxSteps := 2000000 }) (disch := first | omega | rfl) only [sB, Nat.reduceEqDiff]; refine z02 ?_))
          have el : layV σ t = (σ, (0, 0), 133) := by
            rw [layV, if_neg (by omega), if_neg (fun q => hv (q _ (zdl.1 (List.getElem_mem hlt))))]
          rw [el]
          have hput := hxx.pt (by omega) g3' (some (.row (two (0, 0)) 37))
          exact z0f rfl (by simp only [sB, Nat.reduceEqDiff, t4] <;> rfl) (by simp only [sB, Nat.reduceAdd, cutC, ld37] <;> rfl) (by simp only [sG, Nat.reduceEqDiff] <;> rfl) ⟨rfl, hs.keep hw hput, hput.sx hs0⟩
      · obtain rfl : i = (uniq (occ t)).length := by omega
        rw [List.take_length] at hok
        have hall : ∀ v ∈ occ t, okV σ v := fun v hv => hok v (zdl.2 hv)
        have el : layV σ t = ((layS σ t).1, (layS σ t).2, 0) := by rw [layV, if_neg (by omega), if_pos hall]
        rw [el]
        obtain ⟨b1, b2, b3⟩ := hb h0
        repeat' (first | refine EvC.seq ?_ | refine EvC.scope ?_ | refine EvC.block ?_ | (refine EvC.skip ?_) | (refine EvC.exit ?_; try simp only [sB]) | (refine EvC.ret ?_; try simp only [z01, z00]) | (refine EvC.reg ?_; simp (config := { maxSteps := 2000000 }) (disch := first | omega | rfl) only [sB, Nat.reduceEqDiff, reduceCtorEq, ld32, cl27, t0, t3, t26, t27, q3, decn hlt]) | (refine EvC.condT ?_ ?_; simp (config := { maxSteps := 2000000 }) (disch := first | omega | rfl) only [sB]; refine z02 ?_) | (refine EvC.condF ?_ ?_; simp (config := { maxSteps := 2000000 }) (disch := first | omega | rfl) only [sB]; refine z02 ?_))
        refine (zmz hw0 hB _ (Nat.lt_succ_self _) r hfine (hx0.trans hxx) hs3 hall hol b1 b2 b3).mono ?_
        rintro r' H4 ⟨rfl, hs4, hx4⟩
        have nm3' := hs.fresh hw hxx (Nat.le_succ H.next)
        have g4' := hx4.own w3 nm3' g3'
        repeat' (first | refine EvC.seq ?_ | refine EvC.scope ?_ | refine EvC.block ?_ | (refine EvC.skip ?_) | (refine EvC.exit ?_) | (refine EvC.ret ?_; try simp only [z01, z00]) | (refine z0l ?_; simp (config := { maxSteps := 2000000 }) (disch := first | omega | rfl) only [sB, Nat.reduceAdd, one, st37, t4, g4']))
        have l4' := hx4.wf _ _ g4'
        have nm4 := hx4.nm (w3 _ _ g3') nm3'
        exact z0f rfl (by simp only [sB, Nat.reduceEqDiff, t4] <;> rfl) (by simp only [sB, Nat.reduceAdd, cutC, ld37] <;> rfl) (by simp only [sG, Nat.reduceEqDiff] <;> rfl) ⟨rfl, (hs4.box hx4.wf l4' nm4 _).1, ((hxx.sx hs0).trans hx4).box (Nat.le_succ _) l4' nm4 _⟩
    · exact ⟨_, 0, rfl, rfl, by omega, (by simp only [sG, reduceCtorEq] <;> rfl), (by simp only [sG, Nat.reduceEqDiff, reduceCtorEq] <;> rfl), (by simp only [sG, Nat.reduceEqDiff, reduceCtorEq] <;> rfl), (by simp only [sG, Nat.reduceEqDiff, reduceCtorEq] <;> rfl), (by simp only [sG, Nat.reduceEqDiff, reduceCtorEq] <;> rfl), (by simp only [sB, Nat.reduceEqDiff, reduceCtorEq] <;> rfl), by simp⟩
  · have el : layV σ t = (σ, (0, 0), checkS t) := by rw [layV, if_pos h0]
    rw [el]
    have hput := hxx.pt (by omega) g3' (some (.row (two (0, 0)) 37))
    repeat' (first | refine EvC.seq ?_ | refine EvC.scope ?_ | refine EvC.block ?_ | (refine EvC.skip ?_) | (refine EvC.exit ?_) | (refine EvC.ret ?_; try simp only [z01, z00]) | (refine EvC.reg ?_; simp (config := { maxSteps := 2000000 }) (disch := first | omega | rfl) only [sB, Nat.reduceEqDiff, Nat.reduceAdd, Value.cells, one, reduceCtorEq, layC, bd37, st37, z4o h0, g3']) | (refine z0l ?_; simp (config := { maxSteps := 2000000 }) (disch := first | omega | rfl) only [sB, Nat.reduceEqDiff, reduceCtorEq]) | (refine EvC.condT ?_ ?_; simp (config := { maxSteps := 2000000 }) (disch := first | omega | rfl) only [sB, Nat.reduceEqDiff, reduceCtorEq]; refine z02 ?_))
    exact z0f rfl (by simp only [sB, Nat.reduceEqDiff, reduceCtorEq] <;> rfl) (by simp only [sB, Nat.reduceAdd, cutC, ld37] <;> rfl) (by simp only [sG, Nat.reduceEqDiff, reduceCtorEq] <;> rfl) ⟨rfl, hs.keep hw hput, hput.sx hs0⟩
end Go.Proofs.YthkogijbkachdaaDoor.hb
end

-- V3
section
namespace Go.Hb
open Go Go.RowKit
theorem FL.inv {H : Heap} {T : TypeId} {S : Nat → Prop} {l : List Tm} {a : Option Addr} {c : Nat} (h : FL H T S l a c) : (l = [] ∧ a = none ∧ c = 0) ∨ ∃ b cells Si ai ci, a = some ⟨b, 0, none⟩ ∧ l.length ≤ c ∧ c ≤ maxLen ∧
    H.get b = some (.row cells T) ∧ l.length * 6 ≤ cells.length ∧ S b ∧ (∀ i, i < l.length → ¬ Si i b) ∧ FLs H T S l cells Si ai ci := by
  cases h with
  | nil => exact .inl ⟨rfl, rfl, rfl⟩
  | row _ _ b c cells Si ai ci h1 h2 h3 h4 h5 h6 h7 h8 h9 h10 h11 => exact .inr ⟨b, cells, Si, ai, ci, rfl, h1, h2, h3, h4, h7, h8, ⟨h5, h6, h9, h10, h11⟩⟩
end Go.Hb
namespace Go.Proofs.YthkogijbkachdaaDoor.hb
open Go Go.RowKit Go.Hb
variable {ok : Ok}
set_option maxRecDepth 10000
attribute [local irreducible] LX LG EL STG SOP SGO SGD SAL SRD SEF SEG SLK SCK ES
abbrev mark6 (k : Int) (s : ByteArray) : List Value := [.int .i64 k, .string s, .string ByteArray.empty, .int .u64 0, .int .i64 0, .slice none 0 0]
end Go.Proofs.YthkogijbkachdaaDoor.hb
end

-- Z16
section
namespace Go.Proofs.YthkogijbkachdaaDoor.hb
open Go Go.RowKit Go.Hb
variable {ok : Ok}
set_option maxRecDepth 10000
attribute [local irreducible] LX LG EL STG SOP SGO SGD SAL SRD SEF SEG SLK SCK ES
noncomputable def eqT (t t' : Tm) : Bool := @decide (t = t') (Classical.propDecidable _)
theorem zj7 {t t' : Tm} (h : t = t') : eqT t t' = true := by unfold eqT; exact @decide_eq_true _ (Classical.propDecidable _) h
theorem zau {t t' : Tm} (h : t ≠ t') : eqT t t' = false := by unfold eqT; exact @decide_eq_false _ (Classical.propDecidable _) h
theorem z4z {a b : ByteArray} (h : a = b) : (a.toList == b.toList) = true := by rw [h]; exact beq_self_eq_true _
theorem zkl {a b : ByteArray} (h : a ≠ b) : (a.toList == b.toList) = false := by
  rw [beq_eq_false_iff_ne]; exact fun q => h (z5a q)
set_option maxHeartbeats 4000000 in
theorem zlw {m : Nat} : ∀ {t t' : Tm} {cs cs' : List Value} {H : Heap}, SizeOf.sizeOf t < m → RepT H t cs → RepT H t' cs' → H.wf →
    EvF Tryd.prog okT 14 [.agg ⟨cs⟩, .agg ⟨cs'⟩] H fun v H' => v = .bool (eqT t t') ∧ HX H H' := by
  induction m with
  | zero => intro t t' cs cs' H h; omega
  | succ m ih =>
  intro t t' cs cs' H hsz r r' hw
  obtain ⟨a, c, cells, rfl, b1, b2, b3, b4, b5, rl⟩ := r.six
  obtain ⟨a', c', cells', rfl, b1', b2', b3', b4', b5', rl'⟩ := r'.six
  refine EvF.enter rfl Tryd.func14 (by decide) rfl ?_
  (repeat refine EvC.seq ?_); refine EvC.reg ?_; simp (config := { maxSteps := 2000000 }) (disch := first | omega | rfl) only [sB, initTm, dBox, Nat.reduceEqDiff, Value.cells, one, reduceCtorEq]
  obtain ⟨H2, e2, hx2, gp, gq, hnx, hw2⟩ := new2 hw (.row (six t a c) 32) (.row (six t' a' c') 32)
  simp only [e2]
  have q1 := row6 gp
  have q2 := row6 gq
  clear e2
  by_cases k1 : t.kind = t'.kind
  rotate_left
  · repeat' (first | refine EvC.seq ?_ | refine EvC.scope ?_ | refine EvC.block ?_ | (refine EvC.skip ?_) | (refine EvC.exit ?_) | (refine EvC.ret ?_; try simp only [z01, z00]) | (refine EvC.reg ?_; simp (config := { maxSteps := 2000000 }) (disch := first | omega | rfl) only [sB, Nat.reduceEqDiff, reduceCtorEq, z3a, ld3, z4o k1, q1, q2]) | (refine EvC.condT ?_ ?_; simp (config := { maxSteps := 2000000 }) (disch := first | omega | rfl) only [sB, Nat.reduceEqDiff, reduceCtorEq]; refine z02 ?_))
    exact z06 rfl (by simp only [sB, Nat.reduceEqDiff, reduceCtorEq] <;> rfl) ⟨by rw [zau (fun h => k1 (by rw [h]))], hx2⟩
  by_cases k2 : t.name = t'.name
  rotate_left
  · repeat' (first | refine EvC.seq ?_ | refine EvC.scope ?_ | refine EvC.block ?_ | (refine EvC.skip ?_) | (refine EvC.exit ?_) | (refine EvC.ret ?_; try simp only [z01, z00]) | (refine EvC.reg ?_; simp (config := { maxSteps := 2000000 }) (disch := first | omega | rfl) only [sB, Nat.reduceEqDiff, reduceCtorEq, z3a, ld3, z5k, ld9, z1l k1, q1, q2, z2r, zkl k2, Bool.not_false, Bool.false_eq_true]) | (refine EvC.condT ?_ ?_; simp (config := { maxSteps := 2000000 }) (disch := first | omega | rfl) only [sB, Nat.reduceEqDiff, reduceCtorEq]; refine z02 ?_))
    exact z06 rfl (by simp only [sB, Nat.reduceEqDiff, reduceCtorEq] <;> rfl) ⟨by rw [zau (fun h => k2 (by rw [h]))], hx2⟩
  by_cases k3 : t.num = t'.num
  rotate_left
  · repeat' (first | refine EvC.seq ?_ | refine EvC.scope ?_ | refine EvC.block ?_ | (refine EvC.skip ?_) | (refine EvC.exit ?_) | (refine EvC.ret ?_; try simp only [z01, z00]) | (refine EvC.reg ?_; simp (config := { maxSteps := 2000000 }) (disch := first | omega | rfl) only [sB, Nat.reduceEqDiff, reduceCtorEq, z3a, ld3, z5k, ld9, z82, z1l k1, q1, q2, z2r, z4z k2, zkl k3, Bool.not_false, Bool.not_true, Bool.false_eq_true]) | (refine EvC.condT ?_ ?_; simp (config := { maxSteps := 2000000 }) (disch := first | omega | rfl) only [sB, Nat.reduceEqDiff, reduceCtorEq]; refine z02 ?_))
    exact z06 rfl (by simp only [sB, Nat.reduceEqDiff, reduceCtorEq] <;> rfl) ⟨by rw [zau (fun h => k3 (by rw [h]))], hx2⟩
  by_cases k4 : t.bits = t'.bits
  rotate_left
  · repeat' (first | refine EvC.seq ?_ | refine EvC.scope ?_ | refine EvC.block ?_ | (refine EvC.skip ?_) | (refine EvC.exit ?_) | (refine EvC.ret ?_; try simp only [z01, z00]) | (refine EvC.reg ?_; simp (config := { maxSteps := 2000000 }) (disch := first | omega | rfl) only [sB, Nat.reduceEqDiff, reduceCtorEq, z3a, ld3, z5k, ld9, z82, za7, ld30, z1l k1, q1, q2, z2r, z4z k2, z4z k3, z4o k4, Bool.not_true, Bool.false_eq_true]) | (refine EvC.condT ?_ ?_; simp (config := { maxSteps := 2000000 }) (disch := first | omega | rfl) only [sB, Nat.reduceEqDiff, reduceCtorEq]; refine z02 ?_))
    exact z06 rfl (by simp only [sB, Nat.reduceEqDiff, reduceCtorEq] <;> rfl) ⟨by rw [zau (fun h => k4 (by rw [h]))], hx2⟩
  by_cases k5 : t.var = t'.var
  rotate_left
  · repeat' (first | refine EvC.seq ?_ | refine EvC.scope ?_ | refine EvC.block ?_ | (refine EvC.skip ?_) | (refine EvC.exit ?_) | (refine EvC.ret ?_; try simp only [z01, z00]) | (refine EvC.reg ?_; simp (config := { maxSteps := 2000000 }) (disch := first | omega | rfl) only [sB, Nat.reduceEqDiff, reduceCtorEq, z3a, ld3, z5k, ld9, z82, za7, ld30, za8, z1l k1, q1, q2, z2r, z4z k2, z4z k3, z1l k4, z4o k5, Bool.not_true, Bool.false_eq_true]) | (refine EvC.condT ?_ ?_; simp (config := { maxSteps := 2000000 }) (disch := first | omega | rfl) only [sB, Nat.reduceEqDiff, reduceCtorEq]; refine z02 ?_))
    exact z06 rfl (by simp only [sB, Nat.reduceEqDiff, reduceCtorEq] <;> rfl) ⟨by rw [zau (fun h => k5 (by rw [h]))], hx2⟩
  by_cases k6 : (t.args.length : Int) = t'.args.length
  rotate_left
  · repeat' (first | refine EvC.seq ?_ | refine EvC.scope ?_ | refine EvC.block ?_ | (refine EvC.skip ?_) | (refine EvC.exit ?_) | (refine EvC.ret ?_; try simp only [z01, z00]) | (refine EvC.reg ?_; simp (config := { maxSteps := 2000000 }) (disch := first | omega | rfl) only [sB, Nat.reduceEqDiff, reduceCtorEq, z3a, ld3, z5k, ld9, z82, za7, ld30, za8, z3h, ld22, ln22, z1l k1, q1, q2, z2r, z4z k2, z4z k3, z1l k4, z1l k5, z4o k6, Bool.not_true, Bool.false_eq_true]) | (refine EvC.condT ?_ ?_; simp (config := { maxSteps := 2000000 }) (disch := first | omega | rfl) only [sB, Nat.reduceEqDiff, reduceCtorEq]; refine z02 ?_))
    exact z06 rfl (by simp only [sB, Nat.reduceEqDiff, reduceCtorEq] <;> rfl) ⟨by rw [zau (fun h => k6 (by rw [h]))], hx2⟩
  repeat' (first | refine EvC.seq ?_ | refine EvC.scope ?_ | refine EvC.block ?_ | (refine EvC.skip ?_; try simp only [z04]) | (refine EvC.exit ?_) | (refine EvC.ret ?_; try simp only [z01, z00]) | (refine EvC.reg ?_; simp (config := { maxSteps := 2000000 }) (disch := first | omega | rfl) only [sB, Nat.reduceEqDiff, reduceCtorEq, z3a, ld3, z5k, ld9, z82, za7, ld30, za8, z3h, ld22, ln22, z1l k1, q1, q2, z2r, z4z k2, z4z k3, z1l k4, z1l k5, z1l k6, Bool.not_true, Bool.false_eq_true]) | (refine EvC.condT ?_ ?_; simp (config := { maxSteps := 2000000 }) (disch := first | omega | rfl) only [sB, Nat.reduceEqDiff, reduceCtorEq]; refine z02 ?_) | (refine EvC.condF ?_ ?_; simp (config := { maxSteps := 2000000 }) (disch := first | omega | rfl) only [sB, Nat.reduceEqDiff, reduceCtorEq]; refine z02 ?_))
  have hlen : t.args.length = t'.args.length := by omega
  have hm := rl.max
  refine EvC.loop (fun k st => ∃ tm H' i, st = ⟨tm, [], H'⟩ ∧ k = t.args.length - i ∧ i ≤ t.args.length ∧ (∀ j, j < i → t.args[j]? = t'.args[j]?) ∧
      tm.get 2 = some (.pointer (some ⟨H.next, 0, none⟩)) ∧ tm.get 3 = some (.pointer (some ⟨H.next + 1, 0, none⟩)) ∧ tm.get 5 = some (.int .i64 (i : Nat)) ∧
      H'.get H.next = some (.row (six t a c) 32) ∧ H'.get (H.next + 1) = some (.row (six t' a' c') 32) ∧ HX H H') ?_ t.args.length _ ?_
  · rintro k st ⟨tm, H', i, rfl, rfl, hi, hc, t2, t3, t5, gp', gq', hx'⟩
    have q1 := row6 gp'
    have q2 := row6 gq'
    by_cases hlt : i < t.args.length
    · have hlt' : i < t'.args.length := by omega
      obtain ⟨b, o, a1, c1, rfl, hld, hr1⟩ := rl.el hlt
      obtain ⟨b', o', a2, c2, rfl, hld', hr2⟩ := rl'.el hlt'
      have hld1 := hx'.load hw hld
      have hld2 := hx'.load hw hld'
      repeat' (first | refine EvC.seq ?_ | refine EvC.scope ?_ | refine EvC.block ?_ | (refine EvC.skip ?_; try simp only [z04]) | (refine EvC.exit ?_) | (refine EvC.ret ?_; try simp only [z01, z00]) | (refine EvC.reg ?_; simp (config := { maxSteps := 2000000 }) (disch := first | omega | rfl) only [sB, Nat.reduceEqDiff, z3h, ld22, ln22, t2, t5, q1, decl hlt]) | (refine EvC.drw [([(0, 0), (1, 0), (2, 0), (3, 0), (4, 0), (5, 0), (6, 0), (7, 0), (8, 0), (9, 0)], some 10), ([(11, 1)], none)] ?_ ?_; kernel_rfl; simp (config := { maxSteps := 2000000 }) (disch := first | omega | rfl) only [sD, sB, Nat.reduceEqDiff, Nat.reduceAdd, reduceCtorEq, z3h, ld22, ia22, ld32, cl14, t2, t3, t5, q1, q2, hld1, hld2, isAlloc, isRead, reduceCtorEq]) | (refine EvC.condT ?_ ?_; simp (config := { maxSteps := 2000000 }) (disch := first | omega | rfl) only [sB, Nat.reduceEqDiff]; refine z02 ?_))
      have hb := hx'.bump 12
      have hs := z2s (List.getElem?_eq_getElem hlt)
      refine (ih (t := t.args[i]) (t' := t'.args[i]) (by omega) (hr1.mono hb hw) (hr2.mono hb hw) hb.wf).mono ?_
      rintro v H4 ⟨rfl, hx4⟩
      have hx5 := hb.trans hx4
      by_cases he : t.args[i] = t'.args[i]
      · repeat' (first | refine EvC.seq ?_ | refine EvC.scope ?_ | refine EvC.block ?_ | (refine EvC.skip ?_; try simp only [sA]) | (refine EvC.exit ?_) | (refine EvC.ret ?_; try simp only [z01, z00]) | (refine EvC.reg ?_; simp (config := { maxSteps := 2000000 }) (disch := first | omega | rfl) only [sB, Nat.reduceEqDiff, Bool.not_true, t5, z0c]) | (refine za5 ?_; simp (config := { maxSteps := 2000000 }) (disch := first | omega | rfl) only [sD, sB, Nat.reduceEqDiff, zj7 he, isAlloc, isRead]) | (refine EvC.condT ?_ ?_; simp (config := { maxSteps := 2000000 }) (disch := first | omega | rfl) only [sB, Nat.reduceEqDiff]; refine z02 ?_) | (refine EvC.condF ?_ ?_; simp (config := { maxSteps := 2000000 }) (disch := first | omega | rfl) only [sB, Nat.reduceEqDiff]; refine z02 ?_))
        refine ⟨t.args.length - (i + 1), by omega, _, _, i + 1, rfl, rfl, by omega, fun j hj => ?_, (by simp only [sG, Nat.reduceEqDiff, t2] <;> rfl), (by simp only [sG, Nat.reduceEqDiff, t3] <;> rfl), (by simp only [sB, Nat.reduceEqDiff] <;> rfl), hx4.get hb.wf gp', hx4.get hb.wf gq', hx5⟩
        by_cases hji : j = i
        · subst hji; rw [List.getElem?_eq_getElem hlt, List.getElem?_eq_getElem hlt', he]
        · exact hc j (by omega)
      · repeat' (first | refine EvC.seq ?_ | refine EvC.scope ?_ | refine EvC.block ?_ | (refine EvC.skip ?_) | (refine EvC.exit ?_) | (refine EvC.ret ?_; try simp only [z01, z00]) | (refine EvC.reg ?_; simp (config := { maxSteps := 2000000 }) (disch := first | omega | rfl) only [sB, Nat.reduceEqDiff, Bool.not_false]) | (refine za5 ?_; simp (config := { maxSteps := 2000000 }) (disch := first | omega | rfl) only [sD, sB, Nat.reduceEqDiff, zau he, isAlloc, isRead]) | (refine EvC.condT ?_ ?_; simp (config := { maxSteps := 2000000 }) (disch := first | omega | rfl) only [sB, Nat.reduceEqDiff]; refine z02 ?_))
        refine z06 rfl (by simp only [sB, Nat.reduceEqDiff] <;> rfl) ⟨?_, hx5⟩
        rw [zau]
        rintro rfl
        exact he rfl
    · repeat' (first | refine EvC.seq ?_ | refine EvC.scope ?_ | refine EvC.block ?_ | (refine EvC.skip ?_) | (refine EvC.exit ?_; try simp only [sB]) | (refine EvC.ret ?_; try simp only [z01, z00]) | (refine EvC.reg ?_; simp (config := { maxSteps := 2000000 }) (disch := first | omega | rfl) only [sB, Nat.reduceEqDiff, z3h, ld22, ln22, t2, t5, q1, decn hlt]) | (refine EvC.condT ?_ ?_; simp (config := { maxSteps := 2000000 }) (disch := first | omega | rfl) only [sB, Nat.reduceEqDiff]; refine z02 ?_) | (refine EvC.condF ?_ ?_; simp (config := { maxSteps := 2000000 }) (disch := first | omega | rfl) only [sB, Nat.reduceEqDiff]; refine z02 ?_))
      refine z06 rfl (by simp only [sB, Nat.reduceEqDiff] <;> rfl) ⟨?_, hx'⟩
      rw [zj7]
      refine zmv k1 k2 k3 k4 k5 (List.ext_getElem? fun j => ?_)
      by_cases hj : j < i
      · exact hc j hj
      · rw [List.getElem?_eq_none (by omega), List.getElem?_eq_none (by omega)]
  · exact ⟨_, _, 0, rfl, rfl, by omega, by omega, (by simp only [sG, Nat.reduceEqDiff, reduceCtorEq] <;> rfl), (by simp only [sG, Nat.reduceEqDiff, reduceCtorEq] <;> rfl), (by simp only [sB, Nat.reduceEqDiff, reduceCtorEq] <;> rfl), gp, gq, hx2⟩
theorem z8a {t t' : Tm} {cs cs' : List Value} {H : Heap} (r : RepT H t cs) (r' : RepT H t' cs') (hw : H.wf) :
    EvF Tryd.prog okT 14 [.agg ⟨cs⟩, .agg ⟨cs'⟩] H fun v H' => v = .bool (eqT t t') ∧ HX H H' := zlw (Nat.lt_succ_self _) r r' hw
end Go.Proofs.YthkogijbkachdaaDoor.hb
end

-- V4
section
namespace Go.Hb
open Go Go.RowKit
def ApV (S : Nat → Prop) (H0 H : Heap) (T : TypeId) (v : Value) (n : Nat) : Prop :=
  (n = 0 ∧ v = .slice none 0 0) ∨ ∃ b cells c, v = .slice (some ⟨b, 0, none⟩) n c ∧ H.get b = some (.row cells T) ∧ n * 6 ≤ cells.length ∧ (cells.take (n * 6)).all one = true ∧ (S b ∨ H0.next ≤ b)
theorem ApV.push {P : Program} {T t : TypeId} (hp : apOk P t T 6) {S : Nat → Prop} {H0 H : Heap} {v : Value} {n c1 : Nat} {ad : Addr} {cs : List Value} (h : ApV S H0 H T v n) (hk : HK S H0 H) (hl : H.load ad (1 * 6) = some cs) (hc : cs.all one = true) (hlc : cs.length = 6) (hm : n + 1 ≤ most) :
    ∃ H2 v2, dAp P #[t, t] v (.slice (some ad) 1 c1) H = some (.val v2 H2) ∧ ApV S H0 H2 T v2 (n + 1) ∧ HK S H0 H2 := by
  rcases h with ⟨rfl, rfl⟩ | ⟨b, cells, c, rfl, hg, hn, ho, hb⟩
  · refine ⟨_, _, z6m hp (by omega) hm hl hc, .inr ⟨H.next, cs, 1, rfl, z0p, by omega, ?_, .inr hk.next⟩, hk.new _⟩
    rw [List.take_of_length_le (by omega)]; exact hc
  · refine ⟨_, _, z6n hp (by omega) hm hl hc hg hn ho, .inr ⟨H.next, _, _, rfl, z0p, ?_, ?_, .inr hk.next⟩, (hk.put hb (hk.wf _ _ hg) none).new _⟩
    · simp; omega
    · rw [List.take_of_length_le (by simp; omega), List.all_append, ho, hc]; rfl
end Go.Hb
namespace Go.Proofs.YthkogijbkachdaaDoor.hb
open Go Go.RowKit Go.Hb
variable {ok : Ok}
set_option maxRecDepth 10000
attribute [local irreducible] LX LG EL STG SOP SGO SGD SAL SRD SEF SEG SLK SCK ES
noncomputable def eqL (l l' : List Tm) : Bool := @decide (l = l') (Classical.propDecidable _)
end Go.Proofs.YthkogijbkachdaaDoor.hb
end

-- V5
section
namespace Go.Hb
open Go Go.RowKit
section
variable {P : Program} {ok : Ok} {x : Ctx}
theorem zj8 {g : FuncId} (h : callable P g = true) : (dcall1 P g []).isNone = false := by
  unfold callable at h
  unfold dcall1
  split at h
  · rename_i fn hfn
    rw [hfn]
    simp only [h, if_true]; rfl
  · cases h
theorem EvC.rangeF {f : Operand} {params : Array Tmp} {assign body : Code} {g : FuncId} {first captured : Array Value} {tm : Tr Value} {ds : List Deferred} {H : Heap} {Q : Ex → St → Prop} (hr : x.round = none)
    (hf : ev tm f = .func (.func g) first captured) (hc : callable P g = true)
    (h : EvF P ok g (first.toList ++ [.func (.yield (H.next + 1)) #[] #[]] ++ captured.toList) ((H.new (some .dfr)).new (some (.loop .ready none x.fn tm params.toList assign body H.next)))
      fun _ H3 => H3.get (H.next + 1) = some (.loop .ready none x.fn tm params.toList assign body H.next) ∧
        Q .normal ⟨tm, { target := .collected H.next, args := #[] } :: ds, H3.put (H.next + 1) (some (.loop .exhausted none x.fn tm params.toList assign body H.next))⟩) :
    EvC P ok x (.rangeFunc f params assign body) ⟨tm, ds, H⟩ Q := by
  obtain ⟨N, ⟨en, H3⟩, h1, v, he, hg, hq⟩ := h
  simp only at he
  subst he
  refine ⟨N + 1, (.normal, ⟨tm, { target := .collected H.next, args := #[] } :: ds, H3.put (H.next + 1) (some (.loop .exhausted none x.fn tm params.toList assign body H.next))⟩), fun n hn => ?_, hq⟩
  obtain ⟨m, rfl⟩ : ∃ m, n = m + 1 := ⟨n - 1, by omega⟩
  have hcall := h1 m (by omega)
  show dcode P ok (m + 1) x (.rangeFunc f params assign body) ⟨tm, ds, H⟩ = _
  rw [dcode]
  simp only [hr, hf, zj8 hc, Bool.false_eq_true, if_false]
  have e1 : (H.new (some Blk.dfr)).next = H.next + 1 := rfl
  simp only [e1, hcall, hg]
theorem EvC.rangeG {f : Operand} {params : Array Tmp} {assign body : Code} {g : FuncId} {first captured : Array Value} {tm : Tr Value} {ds : List Deferred} {H : Heap} {Q : Ex → St → Prop} (hr : x.round = none)
    (hf : ev tm f = .func (.func g) first captured) (hc : callable P g = true)
    (h : ∀ R, R = Blk.loop .ready none x.fn tm params.toList assign body H.next → EvF P ok g (first.toList ++ [.func (.yield (H.next + 1)) #[] #[]] ++ captured.toList) ((H.new (some .dfr)).new (some R))
      fun _ H3 => H3.get (H.next + 1) = some R ∧ ∀ B, Q .normal ⟨tm, { target := .collected H.next, args := #[] } :: ds, H3.put (H.next + 1) B⟩) :
    EvC P ok x (.rangeFunc f params assign body) ⟨tm, ds, H⟩ Q := EvC.rangeF hr hf hc ((h _ rfl).mono fun _ _ hq => ⟨hq.1, hq.2 _⟩)
theorem zev {fn : Func} {tm : Tr Value} {ds : List Deferred} {l : Nat} {args : Array Value} {H : Heap} {K : Value → Heap → Prop} (hg : H.get l = some .dfr) (h : Ex.leave P ok fn K .ret ⟨tm, ds, H.put l none⟩) :
    Ex.leave P ok fn K .ret ⟨tm, ⟨.collected l, args⟩ :: ds, H⟩ := EvV.mark hg h
theorem EvR.go {l : Nat} {args : List Value} {H : Heap} {K : Value → Heap → Prop} {fn : FuncId} {tm : Tr Value} {ps : List Tmp} {aa bo : Code} {dd : Nat} (hg : H.get l = some (.loop .ready none fn tm ps aa bo dd)) (hl : args.length = ps.length)
    (h : EvC P ok ⟨fn, some l⟩ aa ⟨(ps.zip args).foldl (fun t p => t.put p.1 (some p.2)) tm, [], H⟩ fun e st1 => e = .normal ∧ st1.H.get l = some (.loop .ready none fn tm ps aa bo dd) ∧
      EvC P ok ⟨fn, some l⟩ bo ⟨st1.tm, st1.ds, st1.H.put l (some (.loop .busy none fn tm ps aa bo dd))⟩ fun e st2 => e = .normal ∧ st2.H.get l = some (.loop .busy none fn tm ps aa bo dd) ∧
        K (.bool true) (st2.H.put l (some (.loop .ready none fn tm ps aa bo dd)))) : EvR P ok l args H K := by
  obtain ⟨N, ⟨e, st1⟩, h1, he, hg1, N2, ⟨e2, st2⟩, h2, he2, hg2, hk⟩ := h
  simp only at he he2
  subst he he2
  refine ⟨max N N2 + 1, (.bool true, st2.H.put l (some (.loop .ready none fn tm ps aa bo dd))), fun n hn => ?_, hk⟩
  obtain ⟨m, rfl⟩ : ∃ m, n = m + 1 := ⟨n - 1, by omega⟩
  have c1 := h1 m (by omega)
  have c2 := h2 m (by omega)
  have hb : Nat.beq args.length ps.length = true := by rw [Nat.beq_eq]; exact hl
  simp only at hg1 hg2 c2
  show dround P ok (m + 1) l args H = _
  rw [dround]
  simp only [hg, hb, if_true, c1, hg1, c2, dendRound, hg2]
theorem EvR.mono {l : Nat} {args : List Value} {H : Heap} {K L : Value → Heap → Prop} (h : EvR P ok l args H K) (k : ∀ v H', K v H' → L v H') : EvR P ok l args H L := Upon.mono h fun _ hq => k _ _ hq
end
end Go.Hb
end

-- Sg13
section
namespace Go.Hb
open Go Go.RowKit
theorem StR.from {P : Program} {H : Heap} {B s : Nat} {T : TypeId} {F : List Fld} {V : List Value} (h : StR H B s T F V) {i n c m w : Nat} {a : Option Addr} {t e : TypeId} {L : List (List Value)} (hF : F[i]? = some (.sl e w L)) (hV : V[i]? = some (.slice a n c)) (hs : slcOk P t e w) (hm : m ≤ L.length) {G : Heap} (hG : ∀ b, a = some ⟨b, 0, none⟩ → G.get b = H.get b) :
    ∃ a' c', dSl P t (.slice a n c) (some (.int .i64 (m : Int))) none none G = some (.val (.slice a' (L.length - m) c') G) ∧ L.length - m ≤ maxLen ∧ ∀ (k : Nat) x, L[m + k]? = some x → ∃ b, a = some ⟨b, 0, none⟩ ∧ a' = some ⟨b, m * w, none⟩ := by
  obtain ⟨a0, c0, e0, hlc, hcm⟩ := h.sl hF hV
  cases e0
  obtain ⟨h1, h2, h3⟩ := id hs
  obtain ⟨info, hi⟩ := Option.isSome_iff_exists.1 h2
  by_cases m0 : m = 0
  · subst m0
    refine ⟨a, c, ?_, by omega, fun k x hx => ?_⟩
    · have eb : Nat.beq 0 0 = true := rfl
      simp only [dSl, dslice, h1, hi, bound, z13 (Nat.zero_le L.length), eb, if_true, Nat.sub_zero]
    · obtain ⟨b, rfl, -, -⟩ := h.el hF hV hx
      exact ⟨b, rfl, by rw [Nat.zero_mul]⟩
  · have e0 : Nat.beq m 0 = false := by rw [← Bool.not_eq_true, Nat.beq_eq]; omega
    by_cases mc : m = c
    · refine ⟨some ⟨0, 0, some 0⟩, 0, ?_, by omega, fun k x hx => ?_⟩
      · have e1 : Nat.beq m c = true := by rw [Nat.beq_eq]; exact mc
        have e2 : L.length - m = 0 := by omega
        simp only [dSl, dslice, h1, hi, bound, z13 hm, e0, e1, e2, Bool.false_eq_true, if_false, if_true]
      · have := (List.getElem?_eq_some_iff.1 hx).1; omega
    · rcases h.fld i _ _ hF hV with ⟨q1, q2⟩ | ⟨b, c', q, e⟩
      · rw [q1] at hm; simp at hm; omega
      · cases e
        obtain ⟨cs, hg, -⟩ := q.row
        refine ⟨some ⟨b, 0 + m * w, none⟩, c - m, zm7 hs hm (by omega) (by omega) ((hG b rfl).trans hg) (.inl ⟨cs, rfl⟩), by omega, fun k x hx => ⟨b, rfl, by rw [Nat.zero_add]⟩⟩
end Go.Hb
namespace Go.Proofs.YthkogijbkachdaaDoor.hb
open Go Go.RowKit Go.Hb
variable {ok : Ok}
set_option maxRecDepth 10000
attribute [local irreducible] LX LG EL STG SOP SGO SGD SAL SRD SEF SEG SLK SCK ES
theorem zj9 {a : Option Addr} {n c : Nat} {H : Heap} (hw : H.wf) : EvF Tryd.prog okT 31 [.slice a n c] H fun v H' =>
    v = .func (.func 37) #[] #[.pointer (some ⟨H.next, 0, none⟩)] ∧ H'.get H.next = some (.row [.slice a n c] 61) ∧ H'.next = H.next + 1 ∧ HX H H' := by
  refine EvF.enter rfl Tryd.func31 (by decide) rfl ?_
  (repeat refine EvC.seq ?_); refine EvC.reg ?_; simp (config := { maxSteps := 2000000 }) (disch := first | omega | rfl) only [sB, initTm, dBox, Value.cells, one]
  obtain ⟨H1, e1, hx1, g1, n1, w1⟩ := new1 hw (.row [.slice a n c] 61)
  simp only [e1]
  repeat' (first | refine EvC.seq ?_ | refine EvC.scope ?_ | refine EvC.block ?_ | (refine EvC.skip ?_) | (refine EvC.exit ?_) | (refine EvC.ret ?_; try simp only [z01, z00]) | (refine EvC.reg ?_; simp (config := { maxSteps := 2000000 }) (disch := first | omega | rfl) only [sB, Nat.reduceEqDiff, reduceCtorEq, List.map_toArray]))
  exact z06 rfl (by simp only [sG, Nat.reduceEqDiff, reduceCtorEq] <;> rfl) ⟨rfl, g1, n1, hx1⟩
set_option maxHeartbeats 2000000 in
theorem zav {L : List (Int × Int)} {a : Option Addr} {c p l : Nat} {I : Nat → Heap → Prop} {H : Heap} (hmax : L.length ≤ maxLen) (h1 : ∀ i H, I i H → H.get p = some (.row [.slice a L.length c] 61))
    (h3 : ∀ i H, I i H → ∀ k, (hk : k < L.length) → ∃ b o, a = some ⟨b, o, none⟩ ∧ H.load ⟨b, o + k * 2, none⟩ 2 = some (two L[k]))
    (h2 : ∀ i H, (hi : i < L.length) → I (i + 1) H → EvR Tryd.prog okT l [.int .i64 (i : Nat), .agg ⟨two L[i]⟩] H fun v H' => v = .bool true ∧ I i H') (h : I L.length H) :
    EvF Tryd.prog okT 37 [.func (.yield l) #[] #[], .pointer (some ⟨p, 0, none⟩)] H fun _ H' => I 0 H' := by
  refine EvF.enter rfl Tryd.func37 (by decide) rfl ?_
  have lp := z2t (h1 _ _ h)
  have hm : maxLen = 9223372036854775807 := by simp [maxLen]
  have ew : IntKind.i64.wrap ((L.length : Int) - 1) = (L.length : Int) - 1 := by rw [z0c] <;> omega
  (repeat refine EvC.seq ?_); refine EvC.reg ?_; simp (config := { maxSteps := 2000000 }) (disch := first | omega | rfl) only [sB, initTm, Nat.reduceEqDiff, reduceCtorEq, ld61, ln61, lp, ew]
  refine EvC.block (EvC.loop (fun k st => ∃ tm H' , st = ⟨tm, [], H'⟩ ∧ k ≤ L.length ∧ tm.get 0 = some (.func (.yield l) #[] #[]) ∧ tm.get 1 = some (.pointer (some ⟨p, 0, none⟩)) ∧ tm.get 3 = some (.int .i64 ((k : Nat) - 1 : Int)) ∧ I k H') ?_ L.length _ ?_)
  · rintro k st ⟨tm, H', rfl, hk, t0, t1, t3, hI⟩
    cases k with
    | zero =>
      have hd : decide ((((0 : Nat) : Int) - 1) ≥ 0) = false := by decide
      repeat' (first | refine EvC.seq ?_ | refine EvC.scope ?_ | refine EvC.block ?_ | (refine EvC.skip ?_) | (refine EvC.exit ?_; try simp only [sB]) | (refine EvC.ret ?_; try simp only [z01, z00]) | (refine EvC.reg ?_; simp (config := { maxSteps := 2000000 }) (disch := first | omega | rfl) only [sB, t3, hd]) | (refine EvC.condT ?_ ?_; simp (config := { maxSteps := 2000000 }) (disch := first | omega | rfl) only [sB, Nat.reduceEqDiff]; refine z02 ?_) | (refine EvC.condF ?_ ?_; simp (config := { maxSteps := 2000000 }) (disch := first | omega | rfl) only [sB, Nat.reduceEqDiff]; refine z02 ?_))
      exact z27 rfl hI
    | succ k =>
      have e : (((k + 1 : Nat) : Int) - 1) = (k : Nat) := by omega
      rw [e] at t3
      have hd : decide (((k : Nat) : Int) ≥ 0) = true := decide_eq_true (by omega)
      have lp' := z2t (h1 _ _ hI)
      have hkl : k < L.length := by omega
      obtain ⟨b, o, rfl, hl⟩ := h3 _ _ hI k hkl
      have ew2 : IntKind.i64.wrap ((k : Int) - 1) = (k : Int) - 1 := by rw [z0c] <;> omega
      repeat' (first | refine EvC.seq ?_ | refine EvC.scope ?_ | refine EvC.block ?_ | (refine EvC.skip ?_; try simp only [z04]) | (refine EvC.exit ?_) | (refine EvC.ret ?_; try simp only [z01, z00]) | (refine EvC.reg ?_; simp (config := { maxSteps := 2000000 }) (disch := first | omega | rfl) only [sB, Nat.reduceEqDiff, reduceCtorEq, ld61, ia61, ld78, t0, t1, t3, hd, lp', hl, z9t, z9u]) | (refine EvC.condT ?_ ?_; simp (config := { maxSteps := 2000000 }) (disch := first | omega | rfl) only [sB, Nat.reduceEqDiff]; refine z02 ?_))
      refine (h2 k H' hkl hI).mono ?_
      rintro v H2 ⟨rfl, hI2⟩
      repeat' (first | refine EvC.seq ?_ | refine EvC.scope ?_ | refine EvC.block ?_ | (refine EvC.skip ?_; try simp only [sA]) | (refine EvC.exit ?_) | (refine EvC.ret ?_; try simp only [z01, z00]) | (refine EvC.reg ?_; simp (config := { maxSteps := 2000000 }) (disch := first | omega | rfl) only [sB, Nat.reduceEqDiff, t3, ew2]) | (refine z0l ?_; simp (config := { maxSteps := 2000000 }) (disch := first | omega | rfl) only [sA, Bool.not_true]) | (refine EvC.condT ?_ ?_; simp (config := { maxSteps := 2000000 }) (disch := first | omega | rfl) only [sB, Nat.reduceEqDiff]; refine z02 ?_) | (refine EvC.condF ?_ ?_; simp (config := { maxSteps := 2000000 }) (disch := first | omega | rfl) only [sB, Nat.reduceEqDiff]; refine z02 ?_))
      exact ⟨k, by omega, _, _, rfl, by omega, (by simp only [sG, reduceCtorEq, t0] <;> rfl), (by simp only [sG, Nat.reduceEqDiff, t1] <;> rfl), (by simp only [sG, Nat.reduceEqDiff] <;> rfl), hI2⟩
  · exact ⟨_, _, rfl, Nat.le_refl _, (by simp only [sG, reduceCtorEq] <;> rfl), (by simp only [sG, Nat.reduceEqDiff, reduceCtorEq] <;> rfl), (by simp only [sG, Nat.reduceEqDiff, reduceCtorEq] <;> rfl), h⟩
end Go.Proofs.YthkogijbkachdaaDoor.hb
end

-- Sg14
section
namespace Go.Proofs.YthkogijbkachdaaDoor.hb
open Go Go.RowKit Go.Hb
variable {ok : Ok}
set_option maxRecDepth 10000
attribute [local irreducible] LX LG EL STG SOP SGO SGD SAL SRD SEF SEG SLK SCK ES
def undo1 (x : Int × Int) (σ : SS) : SS := if x.1 = 0 then { σ with cells := σ.cells.set (gi σ.vars x.2).toNat (1, x.2) } else { σ with flags := σ.flags.set x.2.toNat false }
def undoL (σ : SS) (L : List (Int × Int)) : SS := L.foldr undo1 σ
def TrOk (σ : SS) (x : Int × Int) : Prop := (x.1 = 0 ∨ x.1 = 1) ∧ ∃ n k : Nat, x.2 = n ∧ n < σ.vars.length ∧ gi σ.vars n = k ∧ k < σ.cells.length
theorem _root_.Go.Hb.StR.box {H : Heap} {B s n : Nat} {T : TypeId} {F : List Fld} {V : List Value} (h : StR H B s T F V) (hw : H.wf) (hl : n < H.next) (hm : ¬ Mut H s n) (D : Option Blk) : StR (H.put n D) B s T F V :=
  (h.beside hw ((HK.refl (S := fun k => k = n) hw).put (.inl rfl) hl D) fun k e => e ▸ hm).1
theorem zew (x : Int × Int) (σ : SS) : (undo1 x σ).vars = σ.vars ∧ (undo1 x σ).own = σ.own ∧ (undo1 x σ).consts = σ.consts ∧ (undo1 x σ).funs = σ.funs ∧ (undo1 x σ).trail = σ.trail ∧ (undo1 x σ).marks = σ.marks ∧ (undo1 x σ).cells.length = σ.cells.length ∧ (undo1 x σ).flags.length = σ.flags.length := by
  unfold undo1
  split
  · exact ⟨rfl, rfl, rfl, rfl, rfl, rfl, by simp, rfl⟩
  · exact ⟨rfl, rfl, rfl, rfl, rfl, rfl, rfl, by simp⟩
theorem z1h (σ : SS) : ∀ L : List (Int × Int), (undoL σ L).vars = σ.vars ∧ (undoL σ L).own = σ.own ∧ (undoL σ L).consts = σ.consts ∧ (undoL σ L).funs = σ.funs ∧ (undoL σ L).trail = σ.trail ∧ (undoL σ L).marks = σ.marks ∧ (undoL σ L).cells.length = σ.cells.length ∧ (undoL σ L).flags.length = σ.flags.length
  | [] => ⟨rfl, rfl, rfl, rfl, rfl, rfl, rfl, rfl⟩
  | x :: L => by
    have h := z1h σ L
    have k := zew x (undoL σ L)
    show (undo1 x (undoL σ L)).vars = _ ∧ _
    exact ⟨k.1.trans h.1, k.2.1.trans h.2.1, k.2.2.1.trans h.2.2.1, k.2.2.2.1.trans h.2.2.2.1, k.2.2.2.2.1.trans h.2.2.2.2.1, k.2.2.2.2.2.1.trans h.2.2.2.2.2.1, k.2.2.2.2.2.2.1.trans h.2.2.2.2.2.2.1, k.2.2.2.2.2.2.2.trans h.2.2.2.2.2.2.2⟩
def undoS (σ : SS) (n mt mc mv : Nat) : SS :=
  { undoL σ (σ.trail.drop mt) with trail := σ.trail.take mt, cells := (undoL σ (σ.trail.drop mt)).cells.take mc, own := σ.own.take mc, vars := σ.vars.take mv, flags := (undoL σ (σ.trail.drop mt)).flags.take mv, marks := σ.marks.take (n + 1) }
set_option maxHeartbeats 8000000 in
theorem zhp {H : Heap} {B s n mt mc mv : Nat} {σ : SS} (hs : St H B s σ) (hw : H.wf) (hn : n < σ.marks.length) (hmk : σ.marks[n] = ((mt : Int), (mc : Int), (mv : Int))) (hmt : mt ≤ σ.trail.length) (hmc : mc ≤ σ.cells.length) (hmv : mv ≤ σ.vars.length)
    (ho : σ.own.length = σ.cells.length) (hf : σ.flags.length = σ.vars.length) (htr : ∀ x ∈ σ.trail, TrOk σ x) :
    EvF Tryd.prog okT 13 [.pointer (some ⟨s, 0, none⟩), .int .i64 (n : Nat)] H fun r H' => r = .int .i64 0 ∧ St H' B s (undoS σ n mt mc mv) ∧ SX s H H' := by
  have hs0 := hs.lt hw
  obtain ⟨V0, hh⟩ : ∃ V0, StR H B s 64 (flds σ) V0 := hs
  have hM : ∀ {G : Heap} {F : List Fld}, StR G B s 64 F V0 → ∀ x, H.next ≤ x → ¬ Mut G s x := fun hG x hx q => by
    have : Mut H s x := by
      rcases q with q | ⟨V, T, hg, q⟩
      · exact .inl q
      · rw [hG.obj] at hg; cases hg; exact .inr ⟨V0, _, hh.obj, q⟩
    have := hh.mhi hw this
    omega
  have hln := hh.len
  have hV : ∀ i, i < 10 → ∃ v, V0[i]? = some v := fun i hi => ⟨V0[i]'(by rw [← hln]; exact hi), List.getElem?_eq_getElem _⟩
  obtain ⟨v0, hV0⟩ := hV 0 (by omega)
  obtain ⟨a0, c0, rfl, -⟩ := hh.sl (i := 0) rfl hV0
  obtain ⟨v2, hV2⟩ := hV 2 (by omega)
  obtain ⟨a2, c2, rfl, -⟩ := hh.sl (i := 2) rfl hV2
  obtain ⟨v3, hV3⟩ := hV 3 (by omega)
  obtain ⟨a3, c3, rfl, -⟩ := hh.sl (i := 3) rfl hV3
  obtain ⟨v8, hV8⟩ := hV 8 (by omega)
  obtain ⟨a8, c8, rfl, -⟩ := hh.sl (i := 8) rfl hV8
  obtain ⟨v9, hV9⟩ := hV 9 (by omega)
  obtain ⟨a9, c9, rfl, -⟩ := hh.sl (i := 9) rfl hV9
  simp only [List.length_map] at hV0 hV2 hV3 hV8 hV9
  refine EvF.enter rfl Tryd.func13 (by decide) rfl ?_
  (repeat refine EvC.seq ?_); refine EvC.reg ?_; simp (config := { maxSteps := 2000000 }) (disch := first | omega | rfl) only [sB, initTm, dBox, Value.cells, one, reduceCtorEq]
  obtain ⟨H1, e1, hx1, g1, n1, w1⟩ := new1 hw (.row [.pointer (some ⟨s, 0, none⟩)] 25)
  simp only [e1]
  have q1 := z2t g1
  have h := hh.keep hw hx1
  repeat' (first | refine EvC.seq ?_ | refine EvC.scope ?_ | refine EvC.block ?_ | (refine EvC.skip ?_) | (refine EvC.exit ?_) | (refine EvC.ret ?_; try simp only [z01, z00]) | (refine EvC.reg ?_; simp (config := { maxSteps := 2000000 }) (disch := first | omega | rfl) only [sB, Nat.reduceEqDiff, reduceCtorEq, ld25, cl30, q1]))
  refine (zer ⟨V0, h⟩).mono ?_
  rintro r H' ⟨rfl, rfl⟩
  simp only [if_pos (show 0 ≤ (n : Int) ∧ (n : Int) < σ.marks.length by omega)]
  have l9 := h.load hV9
  obtain ⟨b9', rfl, o9, ld9⟩ := h.el (i := 9) (k := n) (x := three ((mt : Int), (mc : Int), (mv : Int))) rfl hV9 (by rw [List.getElem?_map, List.getElem?_eq_getElem hn, hmk]; rfl)
  obtain ⟨H2, e2, hx2, g2, n2, w2⟩ := z29 w1 (.row [.int .i64 0, .int .i64 0, .int .i64 0] 70) (.row (three ((mt : Int), (mc : Int), (mv : Int))) 70)
  have h2 := h.keep w1 hx2
  obtain ⟨H3, e3, hx3, w3⟩ := z36 w2 8
  have h3 := h2.keep w2 hx3
  have g3 := hx3.get w2 (hx2.get w1 g1)
  have g3' := hx3.get w2 g2
  have q3 := z2t g3
  have q3' := zai g3'
  have l8' := h3.load hV8
  obtain ⟨a', c', esl, hmax, hat⟩ := h3.from (P := Tryd.prog) (m := mt) (G := H3) (i := 8) rfl hV8 sl61 (by simpa using hmt) (fun _ _ => rfl)
  rw [List.length_map] at esl hmax
  repeat' (first | refine EvC.seq ?_ | refine EvC.scope ?_ | refine EvC.block ?_ | (refine EvC.skip ?_; try simp only [z04]) | (refine EvC.exit ?_) | (refine EvC.ret ?_; try simp only [z01, z00]) | (refine EvC.reg ?_; simp (config := { maxSteps := 2000000 }) (disch := first | omega | rfl) only [sB, dAlloc, Nat.reduceEqDiff, Nat.reduceAdd, one, reduceCtorEq, ld25, z6z, ld62, ia62, ld70, zr70, st70, z05, z08, q1, l9, ld9, e2, z1l rfl]) | (refine EvC.drw (id := 5) [([(0, 0), (1, 0), (2, 0), (3, 0), (4, 0), (5, 0), (6, 0)], some 7), ([], none)] ?_ ?_; kernel_rfl; simp (config := { maxSteps := 2000000 }) (disch := first | omega | rfl) only [sD, sB, Nat.reduceEqDiff, Nat.reduceAdd, reduceCtorEq, ld25, z70, ld61, zk9, ld3, cl31, z05, z08, e3, q3, q3', l8', esl, isAlloc, isRead, reduceCtorEq]) | (refine EvC.condT ?_ ?_; simp (config := { maxSteps := 2000000 }) (disch := first | omega | rfl) only [sB, Nat.reduceEqDiff, reduceCtorEq]; refine z02 ?_) | (refine EvC.condF ?_ ?_; simp (config := { maxSteps := 2000000 }) (disch := first | omega | rfl) only [sB, Nat.reduceEqDiff, reduceCtorEq]; refine z02 ?_))
  refine (zj9 w3).mono ?_
  rintro r H4 ⟨rfl, g4, n4, hx4⟩
  repeat' (first | refine EvC.seq ?_ | refine EvC.scope ?_ | refine EvC.block ?_ | (refine EvC.skip ?_) | (refine EvC.exit ?_) | (refine EvC.ret ?_; try simp only [z01, z00]) | (refine za5 ?_; simp (config := { maxSteps := 2000000 }) (disch := first | omega | rfl) only [sD, z5t]))
  refine EvC.rangeG rfl (by simp only [sB, Nat.reduceEqDiff, reduceCtorEq] <;> rfl) (by kernel_rfl) ?_
  intro R hR
  obtain ⟨H5, e5, hx5, gd, gR, hn5, hw5⟩ := new2 hx4.wf .dfr R
  simp only [e5]
  have hl3 := hx3.next
  have hl2 : H2.next = H'.next + 1 := n2
  have hx45 := hx4.trans hx5
  have h5 := h3.keep w3 hx45
  have hx15 := ((hx1.trans hx2).trans hx3).trans hx45
  have hld : (σ.trail.drop mt).length = σ.trail.length - mt := List.length_drop
  refine (zav (L := σ.trail.drop mt) (a := a') (c := c') (p := H3.next) (l := H4.next + 1) (I := fun j G => SX s H G ∧ StR G B s 64 (flds (undoL σ ((σ.trail.drop mt).drop j))) V0 ∧ G.get H.next = some (.row [.pointer (some ⟨s, 0, none⟩)] 25) ∧
      G.get H'.next = some (.row (three ((mt : Int), (mc : Int), (mv : Int))) 70) ∧ G.get H3.next = some (.row [.slice a' (σ.trail.length - mt) c'] 61) ∧ G.get H4.next = some .dfr ∧ G.get (H4.next + 1) = some R) (by rw [hld]; exact hmax) ?_ ?_ ?_ ?_).mono ?_
  · rintro j G ⟨-, -, -, -, gs, -, -⟩
    rw [hld]; exact gs
  · rintro j G ⟨-, hG, -⟩ k hk
    have hk' : mt + k < σ.trail.length := by omega
    have hse := z1h σ ((σ.trail.drop mt).drop j)
    obtain ⟨b, rfl, rfl⟩ := hat k (two σ.trail[mt + k]) (by rw [List.getElem?_map, List.getElem?_eq_getElem hk']; rfl)
    obtain ⟨b', eb, -, ld⟩ := hG.el (i := 8) (k := mt + k) (x := two σ.trail[mt + k]) rfl hV8 (by rw [hse.2.2.2.2.1, List.getElem?_map, List.getElem?_eq_getElem hk']; rfl)
    cases eb
    refine ⟨b, mt * 2, rfl, ?_⟩
    have e : mt * 2 + k * 2 = (mt + k) * 2 := by omega
    rw [e, List.getElem_drop]; exact ld
  · rintro i G hlt ⟨hxG, hG, gbG, gmG, gsG, gdG, gRG⟩
    have hxm : (σ.trail.drop mt)[i] ∈ σ.trail := List.mem_of_mem_drop (List.getElem_mem hlt)
    have hdrop : (σ.trail.drop mt).drop i = (σ.trail.drop mt)[i] :: (σ.trail.drop mt).drop (i + 1) := List.drop_eq_getElem_cons hlt
    rw [hdrop]
    generalize (σ.trail.drop mt)[i] = x at *
    generalize (σ.trail.drop mt).drop (i + 1) = L2 at *
    have hse := z1h σ L2
    show EvR _ _ _ _ _ fun v H'_1 => v = Value.bool true ∧ SX s H H'_1 ∧ StR H'_1 B s 64 (flds (undo1 x (undoL σ L2))) V0 ∧ _
    generalize undoL σ L2 = τ at *
    obtain ⟨hk01, nv, kv, ex, hnv, ekv, hkv⟩ := htr x hxm
    have wG := hxG.wf
    have hlR := wG _ _ gRG
    refine EvR.go (gRG.trans (congrArg some hR)) rfl ?_
    (repeat refine EvC.seq ?_); refine EvC.reg ?_; simp (config := { maxSteps := 2000000 }) (disch := first | omega | rfl) only [sB, dAlloc, Nat.reduceEqDiff, Nat.reduceAdd, one, reduceCtorEq, zr78, st78, List.zip_cons_cons, List.zip_nil_right, List.foldl_cons, List.foldl_nil]
    refine ⟨by rw [if_neg (by omega), if_neg (by omega)]; exact gRG.trans (congrArg some hR), ?_⟩
    obtain ⟨G1, eG1, hxG1, gG1, nG1, wG1⟩ := z29 wG (.row [.int .i64 0, .int .i64 0] 78) (.row (two x) 78)
    simp only [eG1]
    have hG1 := hG.keep wG hxG1
    have hl1 := hxG1.next
    generalize hG2 : Heap.put G1 (H4.next + 1) _ = G2
    have n43 : H3.next + 1 ≤ H4.next := by omega
    have hb5 := hx15.next
    have nmR := hM hG1 (H4.next + 1) (by have := hx1.next; omega)
    have hG2' : StR G2 B s 64 (flds τ) V0 := by rw [← hG2]; exact hG1.box wG1 (by omega) nmR _
    have xG1 := hxG.trans (hxG1.sx (hG.lt wG))
    have xG2 : SX s H G2 := by rw [← hG2]; exact xG1.box (by have := hx1.next; omega) (by omega) nmR _
    have wG2 := xG2.wf
    have nG2 : G2.next = G.next + 1 := by rw [← hG2, z0s]; exact nG1
    have keepG : ∀ n, n < G.next → n ≠ H4.next + 1 → G2.get n = G.get n := fun n hn hne => by rw [← hG2, get_put, if_neg hne]; exact hxG1.keep n hn
    have gT2 : G2.get G.next = some (.row (two x) 78) := by rw [← hG2, get_put, if_neg (by omega)]; exact gG1
    have gb2 : G2.get H.next = some (.row [.pointer (some ⟨s, 0, none⟩)] 25) := (keepG _ (wG _ _ gbG) (by omega)).trans gbG
    have q12 := z14 gT2
    have fin : ∀ {G3 : Heap} {ρ : SS}, SX s G2 G3 → StR G3 B s 64 (flds ρ) V0 → SX s H (G3.put (H4.next + 1) (some R)) ∧ StR (G3.put (H4.next + 1) (some R)) B s 64 (flds ρ) V0 ∧ (G3.put (H4.next + 1) (some R)).get H.next = some (.row [.pointer (some ⟨s, 0, none⟩)] 25) ∧
        (G3.put (H4.next + 1) (some R)).get H'.next = some (.row (three ((mt : Int), (mc : Int), (mv : Int))) 70) ∧ (G3.put (H4.next + 1) (some R)).get H3.next = some (.row [.slice a' (σ.trail.length - mt) c'] 61) ∧ (G3.put (H4.next + 1) (some R)).get H4.next = some .dfr ∧ (G3.put (H4.next + 1) (some R)).get (H4.next + 1) = some R := fun {G3} {ρ} x3 h3' => by
      have nm3 := hM h3' (H4.next + 1) (by have := hx1.next; omega)
      have hl3' := x3.next
      have kp : ∀ n D, H.next ≤ n → n ≠ H4.next + 1 → G.get n = some D → (G3.put (H4.next + 1) (some R)).get n = some D := fun n D h1 h2 hg => by
        rw [get_put, if_neg h2]
        exact x3.own wG2 (hM hG2' n h1) ((keepG _ (wG _ _ hg) h2).trans hg)
      have hn1 := hx1.next
      exact ⟨(xG2.trans x3).box (by omega) (by omega) nm3 _, h3'.box x3.wf (by omega) nm3 _, kp _ _ (by omega) (by omega) gbG, kp _ _ (by omega) (by omega) gmG, kp _ _ (by omega) (by omega) gsG, kp _ _ (by omega) (by omega) gdG, by rw [get_put, if_pos rfl]⟩
    by_cases k0 : x.1 = 0
    · obtain ⟨G3, e3', hx3', w3'⟩ := z36 wG2 17
      have hG3 := hG2'.keep wG2 hx3'
      have qb := z2t (hx3'.get wG2 gb2)
      have qx := z14 (hx3'.get wG2 gT2)
      rw [ex] at qx
      have l0 := hG3.load hV0
      have l2 := hG3.load hV2
      have hnt : nv < τ.vars.length := by rw [hse.1]; exact hnv
      obtain ⟨b2, rfl, -, ld2⟩ := hG3.el1 (i := 2) (k := nv) (x := int1 (gi τ.vars nv)) rfl hV2 (by rw [List.getElem?_map, z85 hnt]; rfl)
      rw [hse.1, ekv] at ld2
      have hkt : kv < τ.cells.length := by rw [hse.2.2.2.2.2.2.1]; exact hkv
      obtain ⟨b3, cs, rfl, o3, gb3, hle⟩ := hG3.row (i := 0) (k := kv) rfl hV0 (by simpa using hkt)
      obtain ⟨G4, e4', s4, x4⟩ := hG3.write (i := 0) (k := kv) (y := two (1, (nv : Int))) w3' rfl hV0 (by simpa using hkt) gb3 rfl rfl
      have hle' : kv * 2 + 2 ≤ cs.length := by rw [List.length_map] at hle; omega
      repeat' (first | refine EvC.seq ?_ | refine EvC.scope ?_ | refine EvC.block ?_ | (refine EvC.skip ?_) | (refine EvC.exit ?_) | (refine EvC.ret ?_; try simp only [z01, z00]) | (refine EvC.reg ?_; simp (config := { maxSteps := 2000000 }) (disch := first | omega | rfl) only [sB, Nat.reduceEqDiff, reduceCtorEq, ld3, zka, q12, z0y k0]) | (refine EvC.drw (id := 9) [([(0, 0), (1, 0), (2, 0), (3, 0), (4, 0), (5, 0), (6, 0), (7, 0), (8, 0), (9, 0), (10, 0), (11, 0), (12, 0), (13, 0), (14, 0), (15, 0)], some 16), ([], none)] ?_ ?_; kernel_rfl; simp (config := { maxSteps := 2000000 }) (disch := first | omega | rfl) only [sD, sB, Nat.reduceEqDiff, Nat.reduceAdd, Value.cells, one, reduceCtorEq, Nat.reduceLeDiff, layC, ld25, ld3, z15, ld28, z2e, ld47, zkb, ia47, bd37, ia28, st37, z05, z08, e3', qb, qx, l0, l2, ld2, gb3, hle', e4', isAlloc, isRead, reduceCtorEq]) | (refine EvC.condT ?_ ?_; simp (config := { maxSteps := 2000000 }) (disch := first | omega | rfl) only [sB, Nat.reduceEqDiff, reduceCtorEq]; refine z02 ?_))
      have ef : flds (undo1 x τ) = (flds τ).set 0 (.sl 37 2 ((τ.cells.map two).set kv (two (1, (nv : Int))))) := by
        have ev : gi τ.vars (nv : Int) = (kv : Int) := by rw [hse.1]; exact ekv
        rw [undo1, if_pos k0, ex, ev, Int.toNat_natCast]; simp [flds, List.map_set]
      have f := fin (ρ := undo1 x τ) ((hx3'.sx (hG2'.lt wG2)).trans x4) (by rw [ef]; exact s4)
      have f3 := f.2.2.1
      have f4 := f.2.2.2.1
      have f5 := f.2.2.2.2.1
      have f6 := f.2.2.2.2.2.1
      rw [get_put] at f3 f4 f5 f6
      subst hR
      refine ⟨?_, f.1, f.2.1, f3, f4, f5, f6, by first | rfl | exact f.2.2.2.2.2.2 | (rw [if_pos rfl]; rfl) | simp⟩
      rw [x4.get (by have := hx3'.next; omega) (hM hG3 _ (by have := hx1.next; omega)), hx3'.keep _ (by omega), ← hG2, get_put, if_pos rfl]
    · have k1 : x.1 = 1 := by omega
      obtain ⟨G3, e3', hx3', w3'⟩ := z36 wG2 8
      have hG3 := hG2'.keep wG2 hx3'
      have qb := z2t (hx3'.get wG2 gb2)
      have qx := z14 (hx3'.get wG2 gT2)
      rw [ex] at qx
      have hlf : τ.flags.length = σ.flags.length := hse.2.2.2.2.2.2.2
      have hV3' : V0[3]? = some (.slice a3 τ.flags.length c3) := by rw [hlf]; exact hV3
      have l3 := hG3.load hV3'
      have hnt : nv < τ.flags.length := by rw [hlf, hf]; exact hnv
      obtain ⟨b3, cs, rfl, o3, gb3, hle⟩ := hG3.row (i := 3) (k := nv) rfl hV3' (by simpa using hnt)
      obtain ⟨G4, e4', s4, x4⟩ := hG3.write (i := 3) (k := nv) (y := flg1 false) w3' rfl hV3' (by simpa using hnt) gb3 rfl rfl
      have hle' : nv + 1 ≤ cs.length := by rw [List.length_map] at hle; omega
      rw [Nat.mul_one] at e4'
      repeat' (first | refine EvC.seq ?_ | refine EvC.scope ?_ | refine EvC.block ?_ | (refine EvC.skip ?_) | (refine EvC.exit ?_) | (refine EvC.ret ?_; try simp only [z01, z00]) | (refine EvC.reg ?_; simp (config := { maxSteps := 2000000 }) (disch := first | omega | rfl) only [sB, Nat.reduceEqDiff, reduceCtorEq, ld3, zka, q12, z0n k0, z0y k1]) | (refine EvC.drw (id := 11) [([(0, 0), (1, 0), (2, 0), (3, 0), (4, 0), (5, 0), (6, 0)], some 7), ([], none)] ?_ ?_; kernel_rfl; simp (config := { maxSteps := 2000000 }) (disch := first | omega | rfl) only [sD, sB, Nat.reduceEqDiff, Nat.reduceAdd, one, reduceCtorEq, ld25, ld3, zkb, z6y, ld59, ia59, st4, z05, z08, e3', qb, qx, l3, gb3, hle', e4', isAlloc, isRead, reduceCtorEq]) | (refine EvC.condT ?_ ?_; simp (config := { maxSteps := 2000000 }) (disch := first | omega | rfl) only [sB, Nat.reduceEqDiff, reduceCtorEq]; refine z02 ?_) | (refine EvC.condF ?_ ?_; simp (config := { maxSteps := 2000000 }) (disch := first | omega | rfl) only [sB, Nat.reduceEqDiff, reduceCtorEq]; refine z02 ?_))
      have ef : flds (undo1 x τ) = (flds τ).set 3 (.sl 4 1 ((τ.flags.map flg1).set nv (flg1 false))) := by
        rw [undo1, if_neg k0, ex, Int.toNat_natCast]; simp [flds, List.map_set]
      have f := fin (ρ := undo1 x τ) ((hx3'.sx (hG2'.lt wG2)).trans x4) (by rw [ef]; exact s4)
      have f3 := f.2.2.1
      have f4 := f.2.2.2.1
      have f5 := f.2.2.2.2.1
      have f6 := f.2.2.2.2.2.1
      rw [get_put] at f3 f4 f5 f6
      subst hR
      refine ⟨?_, f.1, f.2.1, f3, f4, f5, f6, by first | rfl | exact f.2.2.2.2.2.2 | (rw [if_pos rfl]; rfl) | simp⟩
      rw [x4.get (by have := hx3'.next; omega) (hM hG3 _ (by have := hx1.next; omega)), hx3'.keep _ (by omega), ← hG2, get_put, if_pos rfl]
  · rw [List.drop_length]
    exact ⟨hx15.sx hs0, h5, hx45.get w3 g3, hx45.get w3 g3', hx5.get hx4.wf g4, gd, gR⟩
  · rintro r G ⟨hxG, hG, gbG, gmG, gsG, gdG, gRG⟩
    refine ⟨gRG, fun D => ?_⟩
    rw [List.drop_zero] at hG
    have hse := z1h σ (σ.trail.drop mt)
    have hn1 := hx1.next
    have hb5 := hx15.next
    have wG := hxG.wf
    have hlR := wG _ _ gRG
    have nmR := hM hG (H4.next + 1) (by omega)
    obtain ⟨A0, e0⟩ : ∃ A0, G.put (H4.next + 1) D = A0 := ⟨_, rfl⟩
    have xA0 : SX s H A0 := by rw [← e0]; exact hxG.box (by omega) hlR nmR D
    have wA0 := xA0.wf
    have hA0 : StR A0 B s 64 (flds (undoL σ (σ.trail.drop mt))) V0 := by rw [← e0]; exact hG.box wG hlR nmR D
    have gb0 : A0.get H.next = some (.row [.pointer (some ⟨s, 0, none⟩)] 25) := by rw [← e0, get_put, if_neg (by omega)]; exact gbG
    have gm0 : A0.get H'.next = some (.row (three ((mt : Int), (mc : Int), (mv : Int))) 70) := by rw [← e0, get_put, if_neg (by omega)]; exact gmG
    have gd0 : A0.get H4.next = some .dfr := by rw [← e0, get_put, if_neg (by omega)]; exact gdG
    have nb0 := hM hA0 H.next (Nat.le_refl _)
    have nm0 := hM hA0 H'.next (by omega)
    have nd0 := hM hA0 H4.next (by omega)
    simp only [e0]
    have hs0A : St A0 B s (undoL σ (σ.trail.drop mt)) := ⟨V0, hA0⟩
    clear hG hA0 e0 gRG gsG gmG gbG hxG nmR hlR wG
    generalize hσ' : undoL σ (σ.trail.drop mt) = σ' at *
    obtain ⟨A1, e1', hx1', w1'⟩ := z36 wA0 11
    have hs1' := hs0A.keep wA0 hx1'
    obtain ⟨a0y, c0y, a1y, c1y, a2y, c2y, a3y, c3y, a4y, c4y, a5y, c5y, r6y, r7y, a8y, c8y, a9y, c9y, hy, l0y, l1y, l2y, l3y, l4y, l5y, l6y, l7y, l8y, l9y, b0y, b1y, b2y, b3y, b4y, b5y, b8y, b9y⟩ := hs1'.open
    have qb1 := z2t (hx1'.get wA0 gb0)
    have qm1 := zai (hx1'.get wA0 gm0)
    have go1 := hy.obj
    have et1 : mt ≤ σ'.trail.length := by rw [hse.2.2.2.2.1]; exact hmt
    have es1 := z6l (P := Tryd.prog) (H := A1) (t := 61) (e := 78) (s := 2) (a := a8y) (n := σ'.trail.length) (c := c8y) (m := mt) (k := .i64) sl61 (by have := b8y.1; omega)
    obtain ⟨A2, e2', s2, x2⟩ := hy.cut (i := 8) (m := mt) w1' rfl rfl (by simpa using et1)
    simp only [List.set_cons_zero, List.set_cons_succ] at e2'
    have hs2' : St A2 B s { σ' with trail := σ'.trail.take mt } := ⟨_, by simpa [flds] using s2⟩
    clear s2
    have lts := hy.lt w1'
    have w2' := x2.wf
    have hlA1 := hx1'.next
    have gb2' := x2.own w1' (fun q => nb0 (HX.mut hx1' (hs0A.lt wA0) q)) (hx1'.get wA0 gb0)
    have gm2' := x2.own w1' (fun q => nm0 (HX.mut hx1' (hs0A.lt wA0) q)) (hx1'.get wA0 gm0)
    have gd2' := x2.own w1' (fun q => nd0 (HX.mut hx1' (hs0A.lt wA0) q)) (hx1'.get wA0 gd0)
    have nb2 := x2.nm (w1' _ _ (hx1'.get wA0 gb0)) (fun q => nb0 (HX.mut hx1' (hs0A.lt wA0) q))
    have nm2 := x2.nm (w1' _ _ (hx1'.get wA0 gm0)) (fun q => nm0 (HX.mut hx1' (hs0A.lt wA0) q))
    have nd2 := x2.nm (w1' _ _ (hx1'.get wA0 gd0)) (fun q => nd0 (HX.mut hx1' (hs0A.lt wA0) q))
    obtain ⟨A3, e3', hx3', w3'⟩ := z36 w2' 22
    have hs3' := hs2'.keep w2' hx3'
    obtain ⟨a0z, c0z, a1z, c1z, a2z, c2z, a3z, c3z, a4z, c4z, a5z, c5z, r6z, r7z, a8z, c8z, a9z, c9z, hz, l0z, l1z, l2z, l3z, l4z, l5z, l6z, l7z, l8z, l9z, b0z, b1z, b2z, b3z, b4z, b5z, b8z, b9z⟩ := hs3'.open
    have ec3 : mc ≤ σ'.cells.length := by rw [hse.2.2.2.2.2.2.1]; exact hmc
    have eo3 : mc ≤ σ'.own.length := by rw [hse.2.1, ho]; exact hmc
    have qb3 := z2t (hx3'.get w2' gb2')
    have qm3 := zai (hx3'.get w2' gm2')
    have go3 := hz.obj
    have es3 := z6l (P := Tryd.prog) (H := A3) (t := 28) (e := 37) (s := 2) (a := a0z) (n := σ'.cells.length) (c := c0z) (m := mc) (k := .i64) sl28 (by have := b0z.1; simp only at this; omega)
    have es3' := fun G => z6l (P := Tryd.prog) (H := G) (t := 47) (e := 3) (s := 1) (a := a1z) (n := σ'.own.length) (c := c1z) (m := mc) (k := .i64) sl47 (by have := b1z.1; simp only at this; omega)
    obtain ⟨A4, e4', s4, x4⟩ := hz.cut (i := 0) (m := mc) w3' rfl rfl (by simpa using ec3)
    have w4' := x4.wf
    have go4 := s4.obj
    obtain ⟨A5, e5', s5, x5⟩ := s4.cut (i := 1) (m := mc) w4' rfl rfl (by simpa using eo3)
    simp only [List.set_cons_zero, List.set_cons_succ] at e4' e5' go4
    have hs5' : St A5 B s { σ' with trail := σ'.trail.take mt, cells := σ'.cells.take mc, own := σ'.own.take mc } := ⟨_, by simpa [flds] using s5⟩
    clear s5 s4
    have nbx : ∀ {A C : Heap} {x : Nat} {E : Blk}, HX A C → s < A.next → ¬ Mut A s x → A.get x = some E → A.wf → ¬ Mut C s x ∧ C.get x = some E := fun hx hl hm hg hwA => ⟨fun q => hm (HX.mut hx hl q), hx.get hwA hg⟩
    have sbx : ∀ {A C : Heap} {x : Nat} {E : Blk}, SX s A C → ¬ Mut A s x → A.get x = some E → A.wf → ¬ Mut C s x ∧ C.get x = some E := fun hx hm hg hwA => ⟨hx.nm (hwA _ _ hg) hm, hx.own hwA hm hg⟩
    obtain ⟨nb3, gb3⟩ := nbx hx3' (hs2'.lt w2') nb2 gb2' w2'
    obtain ⟨nm3, gm3⟩ := nbx hx3' (hs2'.lt w2') nm2 gm2' w2'
    obtain ⟨nd3, gd3⟩ := nbx hx3' (hs2'.lt w2') nd2 gd2' w2'
    obtain ⟨nb4, gb4⟩ := sbx x4 nb3 gb3 w3'
    obtain ⟨nm4, gm4⟩ := sbx x4 nm3 gm3 w3'
    obtain ⟨nd4, gd4⟩ := sbx x4 nd3 gd3 w3'
    have qb4 := z2t gb4
    have qm4 := zai gm4
    repeat' (first | refine EvC.seq ?_ | refine EvC.scope ?_ | refine EvC.block ?_ | (refine EvC.skip ?_) | (refine EvC.exit ?_) | (refine EvC.ret ?_; try simp only [z01, z00]) | (refine EvC.drw (id := 14) [([(0, 0), (1, 0), (2, 0), (3, 0), (4, 0), (5, 0), (6, 0), (7, 0), (8, 0), (9, 0)], some 10), ([], none)] ?_ ?_; kernel_rfl; simp (config := { maxSteps := 2000000 }) (disch := first | omega | rfl) only [sD, sB, Nat.reduceEqDiff, Nat.reduceAdd, one, reduceCtorEq, Nat.reduceLeDiff, ld25, z70, ld61, zk9, ld3, st61, z05, z08, e1', qb1, qm1, l8y, es1, go1, e2', isAlloc, isRead, reduceCtorEq]) | (refine EvC.drw (id := 15) [([(0, 0), (2, 0), (3, 0), (4, 0), (5, 0), (6, 0), (7, 0), (8, 0), (9, 0), (10, 0), (11, 0), (12, 0), (16, 0), (17, 0)], some 18), ([(1, 0), (13, 0), (14, 0), (15, 0), (19, 1), (20, 1)], some 21), ([], none)] ?_ ?_; kernel_rfl; simp (config := { maxSteps := 2000000 }) (disch := first | omega | rfl) only [sV, sD, sB, Nat.reduceEqDiff, Nat.reduceAdd, one, reduceCtorEq, Nat.reduceLeDiff, ld25, ld3, z15, ld28, ld47, zmd, z5j, st28, st47, z05, z08, e3', qb3, qm3, l0z, l1z, es3, es3', go3, e4', go4, e5', qb4, qm4, isAlloc, isRead, reduceCtorEq]) | (refine EvC.drw (id := 16) [([(0, 0), (2, 0), (3, 0), (4, 0), (5, 0), (6, 0), (7, 0), (8, 0), (9, 0), (10, 0), (11, 0), (12, 0), (16, 0), (17, 0)], some 18), ([(1, 0), (13, 0), (14, 0), (15, 0), (19, 1), (20, 1)], some 21), ([], none)] ?_ ?_; kernel_rfl; simp (config := { maxSteps := 2000000 }) (disch := first | omega | rfl) only [sD, sB, Nat.reduceEqDiff, Nat.reduceAdd, reduceCtorEq, ld25, isAlloc, reduceCtorEq]))
    clear es3 es3' es1 go1 go3 go4 qb1 qm1 qb3 qm3 qb4 qm4 e1' e2' e3' e4' e5' hy hz
    have w5' := x5.wf
    obtain ⟨nb5, gb5⟩ := sbx x5 nb4 gb4 w4'
    obtain ⟨nm5, gm5⟩ := sbx x5 nm4 gm4 w4'
    obtain ⟨nd5, gd5⟩ := sbx x5 nd4 gd4 w4'
    obtain ⟨A6, e6', hx6', w6'⟩ := z36 w5' 22
    have hs6' := hs5'.keep w5' hx6'
    obtain ⟨a0u, c0u, a1u, c1u, a2u, c2u, a3u, c3u, a4u, c4u, a5u, c5u, r6u, r7u, a8u, c8u, a9u, c9u, hu, l0u, l1u, l2u, l3u, l4u, l5u, l6u, l7u, l8u, l9u, b0u, b1u, b2u, b3u, b4u, b5u, b8u, b9u⟩ := hs6'.open
    have ev3 : mv ≤ σ'.vars.length := by rw [hse.1]; exact hmv
    have ef3 : mv ≤ σ'.flags.length := by rw [hse.2.2.2.2.2.2.2, hf]; exact hmv
    obtain ⟨nb6, gb6⟩ := nbx hx6' (hs5'.lt w5') nb5 gb5 w5'
    obtain ⟨nm6, gm6⟩ := nbx hx6' (hs5'.lt w5') nm5 gm5 w5'
    obtain ⟨nd6, gd6⟩ := nbx hx6' (hs5'.lt w5') nd5 gd5 w5'
    have qb6 := z2t gb6
    have qm6 := zai gm6
    have go6 := hu.obj
    have es6 := z6l (P := Tryd.prog) (H := A6) (t := 47) (e := 3) (s := 1) (a := a2u) (n := σ'.vars.length) (c := c2u) (m := mv) (k := .i64) sl47 (by have := b2u.1; simp only at this; omega)
    have es6' := fun G => z6l (P := Tryd.prog) (H := G) (t := 59) (e := 4) (s := 1) (a := a3u) (n := σ'.flags.length) (c := c3u) (m := mv) (k := .i64) sl59 (by have := b3u.1; simp only at this; omega)
    obtain ⟨A7, e7', s7, x7⟩ := hu.cut (i := 2) (m := mv) w6' rfl rfl (by simpa using ev3)
    have w7' := x7.wf
    have go7 := s7.obj
    obtain ⟨A8, e8', s8, x8⟩ := s7.cut (i := 3) (m := mv) w7' rfl rfl (by simpa using ef3)
    simp only [List.set_cons_zero, List.set_cons_succ] at e7' e8' go7
    have hs8' : St A8 B s { σ' with trail := σ'.trail.take mt, cells := σ'.cells.take mc, own := σ'.own.take mc, vars := σ'.vars.take mv, flags := σ'.flags.take mv } := ⟨_, by simpa [flds] using s8⟩
    clear s8 s7
    obtain ⟨nb7, gb7⟩ := sbx x7 nb6 gb6 w6'
    obtain ⟨nm7, gm7⟩ := sbx x7 nm6 gm6 w6'
    obtain ⟨nd7, gd7⟩ := sbx x7 nd6 gd6 w6'
    have qb7 := z2t gb7
    have qm7 := zai gm7
    have l2v := l2u
    have l3v := l3u
    rw [← e6', z3g] at l2v l3v
    have qb5 := z2t gb5
    have qm5 := zai gm5
    repeat' (first | refine EvC.seq ?_ | refine EvC.scope ?_ | refine EvC.block ?_ | (refine EvC.skip ?_) | (refine EvC.exit ?_) | (refine EvC.ret ?_; try simp only [z01, z00]) | (refine EvC.drw (id := 17) [([(0, 0), (1, 0), (2, 0), (3, 0), (4, 0), (5, 0), (6, 0), (7, 0), (8, 0), (9, 0)], some 10), ([], none)] ?_ ?_; kernel_rfl; simp (config := { maxSteps := 2000000 }) (disch := first | omega | rfl) only [sD, sB, Nat.reduceEqDiff, Nat.reduceAdd, reduceCtorEq, ld25, isAlloc, reduceCtorEq]) | (refine zk1 ?_; simp (config := { maxSteps := 2000000 }) (disch := first | omega | rfl) only [sV, sD, sB, Nat.reduceEqDiff, Nat.reduceAdd, one, reduceCtorEq, Nat.reduceLeDiff, ld25, ld3, z2e, ld47, z6y, ld59, st47, zme, st59, z05, z08, e6', qb5, qb6, qm6, l2u, l3u, es6, es6', go6, e7', go7, e8', qb7, qm7, isAlloc, isRead, reduceCtorEq]))
    clear es6 es6' go6 go7 qb6 qm6 qb7 qm7 e6' e7' e8' hu
    have w8' := x8.wf
    obtain ⟨nb8, gb8⟩ := sbx x8 nb7 gb7 w7'
    obtain ⟨nm8, gm8⟩ := sbx x8 nm7 gm7 w7'
    obtain ⟨nd8, gd8⟩ := sbx x8 nd7 gd7 w7'
    obtain ⟨A9, e9', hx9', w9'⟩ := z36 w8' 11
    have hs9' := hs8'.keep w8' hx9'
    obtain ⟨a0w, c0w, a1w, c1w, a2w, c2w, a3w, c3w, a4w, c4w, a5w, c5w, r6w, r7w, a8w, c8w, a9w, c9w, hw, l0w, l1w, l2w, l3w, l4w, l5w, l6w, l7w, l8w, l9w, b0w, b1w, b2w, b3w, b4w, b5w, b8w, b9w⟩ := hs9'.open
    obtain ⟨nb9, gb9⟩ := nbx hx9' (hs8'.lt w8') nb8 gb8 w8'
    obtain ⟨nd9, gd9⟩ := nbx hx9' (hs8'.lt w8') nd8 gd8 w8'
    have qb9 := z2t gb9
    have go9 := hw.obj
    have em9 : n + 1 ≤ σ'.marks.length := by rw [hse.2.2.2.2.2.1]; exact hn
    have hmx := b9w.2
    have hmx1 := b9w.1
    simp only at hmx1
    have hmm : maxLen = 9223372036854775807 := by simp [maxLen]
    have ewn : IntKind.i64.wrap ((n : Int) + 1) = ((n + 1 : Nat) : Int) := by rw [z0c] <;> omega
    have es9 := z6l (P := Tryd.prog) (H := A9) (t := 62) (e := 70) (s := 3) (a := a9w) (n := σ'.marks.length) (c := c9w) (m := n + 1) (k := .i64) sl62 (by omega)
    obtain ⟨A10, e10', s10, x10⟩ := hw.cut (i := 9) (m := n + 1) w9' rfl rfl (by simpa using em9)
    simp only [List.set_cons_zero, List.set_cons_succ] at e10'
    have hs10' : St A10 B s { σ' with trail := σ'.trail.take mt, cells := σ'.cells.take mc, own := σ'.own.take mc, vars := σ'.vars.take mv, flags := σ'.flags.take mv, marks := σ'.marks.take (n + 1) } := ⟨_, by simpa [flds] using s10⟩
    clear s10
    obtain ⟨nd10, gd10⟩ := sbx x10 nd9 gd9 w9'
    have l9v := l9w
    rw [← e9', z3g] at l9v
    have qb8 := z2t gb8
    repeat' (first | refine EvC.seq ?_ | refine EvC.scope ?_ | refine EvC.block ?_ | (refine EvC.skip ?_) | (refine EvC.exit ?_) | (refine EvC.ret ?_; try simp only [z01, z00]) | (refine EvC.reg ?_; simp (config := { maxSteps := 2000000 }) (disch := first | omega | rfl) only [sA]) | (refine zk1 ?_; simp (config := { maxSteps := 2000000 }) (disch := first | omega | rfl) only [sD, sB, Nat.reduceEqDiff, Nat.reduceAdd, one, reduceCtorEq, ld25, z6z, ld62, st62, z05, z08, e9', qb8, qb9, l9w, ewn, es9, go9, e10', isAlloc, isRead, reduceCtorEq]))
    refine zev gd10 ?_
    refine z06 rfl (by simp only [sG, Nat.reduceEqDiff, reduceCtorEq] <;> rfl) ⟨rfl, ?_, ?_⟩
    · have e : undoS σ n mt mc mv = { σ' with trail := σ'.trail.take mt, cells := σ'.cells.take mc, own := σ'.own.take mc, vars := σ'.vars.take mv, flags := σ'.flags.take mv, marks := σ'.marks.take (n + 1) } := by
        simp only [undoS, hσ', hse.1, hse.2.1, hse.2.2.2.2.1, hse.2.2.2.2.2.1]
      rw [e]
      exact (hs10'.box x10.wf (x10.wf _ _ gd10) nd10 _).1
    · have xx := xA0.trans (((hx1'.sx (hs0A.lt wA0)).trans x2).trans (((hx3'.sx (hs2'.lt w2')).trans (x4.trans x5)).trans (((hx6'.sx (hs5'.lt w5')).trans (x7.trans x8)).trans ((hx9'.sx (hs8'.lt w8')).trans x10))))
      exact xx.box (by omega) (x10.wf _ _ gd10) nd10 _
end Go.Proofs.YthkogijbkachdaaDoor.hb
end

-- Sq1
section
namespace Go.Proofs.YthkogijbkachdaaDoor.hb
open Go Go.RowKit Go.Hb
structure Grow (σ τ : SS) : Prop where
  cells : σ.cells <+: τ.cells
  own : σ.own <+: τ.own
  vars : σ.vars <+: τ.vars
  flags : σ.flags <+: τ.flags
  consts : σ.consts <+: τ.consts
  funs : σ.funs <+: τ.funs
theorem Grow.refl (σ : SS) : Grow σ σ := ⟨List.prefix_refl _, List.prefix_refl _, List.prefix_refl _, List.prefix_refl _, List.prefix_refl _, List.prefix_refl _⟩
theorem Grow.trans {a b c : SS} (h : Grow a b) (k : Grow b c) : Grow a c := ⟨h.cells.trans k.cells, h.own.trans k.own, h.vars.trans k.vars, h.flags.trans k.flags, h.consts.trans k.consts, h.funs.trans k.funs⟩
theorem z1x {l m : List Int} (h : l <+: m) {n : Nat} (hn : n < l.length) : gi m n = gi l n := by
  obtain ⟨t, rfl⟩ := h
  unfold gi; rw [Int.toNat_natCast, List.getElem?_append_left hn]
theorem z50 {l m : List (Int × Int)} (h : l <+: m) {n : Nat} (hn : n < l.length) : ci m n = ci l n := by
  obtain ⟨t, rfl⟩ := h
  unfold ci; rw [Int.toNat_natCast, List.getElem?_append_left hn]
theorem z51 {l : List (Int × Int)} {k n : Nat} {c : Int × Int} (hk : k < l.length) : ci (l.set k c) n = if n = k then c else ci l n := by
  unfold ci
  rw [Int.toNat_natCast, List.getElem?_set]
  by_cases h : k = n
  · subst h; rw [if_pos rfl, if_pos hk, if_pos rfl]; rfl
  · rw [if_neg h, if_neg (fun e => h e.symm)]
theorem z2b {σ : SS} {c : Int × Int} : mayS σ c = true ↔ (c.1 = 3 ∧ 0 ≤ c.2 ∧ c.2 < σ.consts.length) ∨ (c.1 = 2 ∧ 0 ≤ c.2 ∧ c.2 < σ.cells.length ∧ 0 ≤ gi σ.own c.2) ∨ (c.1 = 4 ∧ 0 ≤ c.2 ∧ c.2 < σ.cells.length ∧ gi σ.own c.2 < 0 ∧ gi σ.own c.2 ≠ -2) := by
  unfold mayS
  split
  · rename_i h
    rw [decide_eq_true_iff]
    constructor
    · intro q; exact .inl ⟨h, q⟩
    · rintro (q | q | q)
      · exact q.2
      · omega
      · omega
  · rename_i h
    split
    · rename_i h24
      rw [decide_eq_true_iff]
      constructor
      · rintro ⟨⟨q1, q2⟩, q3, q4⟩
        rcases h24 with h2 | h4
        · exact .inr (.inl ⟨h2, q1, q2, q3.1 h2⟩)
        · exact .inr (.inr ⟨h4, q1, q2, by by_cases q : 0 ≤ gi σ.own c.2; exact absurd (q3.2 q) (by omega); omega, q4⟩)
      · rintro (q | q | q)
        · omega
        · exact ⟨⟨q.2.1, q.2.2.1⟩, ⟨fun _ => q.2.2.2, fun _ => q.1⟩, by have := q.2.2.2; omega⟩
        · exact ⟨⟨q.2.1, q.2.2.1⟩, ⟨fun h2 => by omega, fun h2 => by omega⟩, q.2.2.2.2⟩
    · rename_i h24
      constructor
      · intro q; cases q
      · rintro (q | q | q) <;> omega
inductive CellOk (U : Nat → Prop) (σ : SS) (a : Nat) : Prop
  | var (v : Nat) : gi σ.own a = v → v < σ.vars.length → gi σ.vars v = a → (ci σ.cells a = (1, (v : Int)) ∨ ((ci σ.cells a).1 ≠ 1 ∧ mayS σ (ci σ.cells a) = true)) → CellOk U σ a
  | fn (f : Nat) : gi σ.own a = -1 → ci σ.cells a = (5, (f : Int)) → (hf : f < σ.funs.length) → 0 ≤ σ.funs[f].2 → σ.funs[f].2 ≤ 1000 → (∀ i : Nat, (i : Int) < σ.funs[f].2 → a + 1 + i < σ.cells.length ∧ gi σ.own ((a + 1 + i : Nat) : Int) = -2) → CellOk U σ a
  | arg : gi σ.own a = -2 → (mayS σ (ci σ.cells a) = true ∨ U a) → CellOk U σ a
structure WF (U : Nat → Prop) (σ : SS) : Prop where
  lo : σ.own.length = σ.cells.length
  lf : σ.flags.length = σ.vars.length
  var : ∀ n : Nat, n < σ.vars.length → ∃ k : Nat, gi σ.vars n = k ∧ k < σ.cells.length ∧ gi σ.own k = n
  cell : ∀ a : Nat, a < σ.cells.length → CellOk U σ a
  der : ∀ c, mayS σ c = true → ∃ m d, Der σ.cells m c d
  con : ∀ t ∈ σ.consts, Bd t ∧ t.args = []
  fn : ∀ k ∈ σ.funs, k.1.size ≤ maxLen
theorem z5z {σ τ : SS} (g : Grow σ τ) (lo : σ.own.length = σ.cells.length) {c : Int × Int} (h : mayS σ c = true) : mayS τ c = true := by
  rw [z2b] at h ⊢
  have h1 := g.consts.length_le
  have h2 := g.cells.length_le
  rcases h with ⟨a, b, d⟩ | ⟨a, b, d, e⟩ | ⟨a, b, d, e, f⟩
  · exact .inl ⟨a, b, by omega⟩
  · obtain ⟨n, en⟩ := Int.eq_ofNat_of_zero_le b
    rw [en] at d e ⊢
    rw [z1x g.own (by omega)]
    exact .inr (.inl ⟨a, by omega, by omega, e⟩)
  · obtain ⟨n, en⟩ := Int.eq_ofNat_of_zero_le b
    rw [en] at d e f ⊢
    rw [z1x g.own (by omega)]
    exact .inr (.inr ⟨a, by omega, by omega, e, f⟩)
theorem WF.next {U : Nat → Prop} {σ : SS} (h : WF U σ) {c : Int × Int} (hm : mayS σ c = true) (h2 : c.1 = 2) : ∃ n : Nat, c.2 = n ∧ n < σ.cells.length ∧ 0 ≤ gi σ.own n ∧ ((ci σ.cells n).1 ≠ 1 → mayS σ (ci σ.cells n) = true) := by
  rw [z2b] at hm
  rcases hm with q | ⟨-, b, d, e⟩ | q
  · omega
  · obtain ⟨n, en⟩ := Int.eq_ofNat_of_zero_le b
    rw [en] at d e
    refine ⟨n, en, by omega, e, fun h1 => ?_⟩
    cases h.cell n (by omega) with
    | var v _ _ _ q => rcases q with q | q; rw [q] at h1; exact absurd rfl h1; exact q.2
    | fn f q => omega
    | arg q => omega
  · omega
theorem WF.derc {U : Nat → Prop} {σ : SS} (h : WF U σ) {cells' : List (Int × Int)} (hl : σ.cells.length ≤ cells'.length) (he : ∀ n : Nat, n < σ.cells.length → 0 ≤ gi σ.own n → ci cells' n = ci σ.cells n) : ∀ {m : Nat} {c d : Int × Int}, Der σ.cells m c d → mayS σ c = true → Der cells' m c d := by
  intro m c d hd
  induction hd with
  | stop h1 => intro _; exact .stop h1
  | var h1 h2 h3 h4 =>
    intro hm
    obtain ⟨n, en, hn, ho, -⟩ := h.next hm h1
    refine .var h1 h2 (by omega) ?_
    rw [en] at h4 ⊢
    rw [he n hn ho]; exact h4
  | go h1 h2 h3 h4 _ ih =>
    intro hm
    obtain ⟨n, en, hn, ho, hnx⟩ := h.next hm h1
    rw [en] at h4 ih
    refine .go h1 h2 (by omega) ?_ ?_
    · rw [en, he n hn ho]; exact h4
    · rw [en, he n hn ho]; exact ih (hnx h4)
theorem WF.dmay {U : Nat → Prop} {σ : SS} (h : WF U σ) : ∀ {m : Nat} {c d : Int × Int}, Der σ.cells m c d → mayS σ c = true → mayS σ d = true ∧ (d.1 = 2 → (ci σ.cells d.2).1 = 1) := by
  intro m c d hd
  induction hd with
  | stop h1 => intro hm; exact ⟨hm, fun q => absurd q h1⟩
  | var h1 h2 h3 h4 => intro hm; exact ⟨hm, fun _ => h4⟩
  | go h1 h2 h3 h4 _ ih =>
    intro hm
    obtain ⟨n, en, hn, ho, hnx⟩ := h.next hm h1
    rw [en] at h4 ih
    exact ih (hnx h4)
theorem WF.grow {U U' : Nat → Prop} {σ τ : SS} (h : WF U σ) (g : Grow σ τ) (lo : τ.own.length = τ.cells.length) (lf : τ.flags.length = τ.vars.length) (hu : ∀ a, a < σ.cells.length → U a → U' a)
    (hv : ∀ n : Nat, σ.vars.length ≤ n → n < τ.vars.length → ∃ k : Nat, gi τ.vars n = k ∧ k < τ.cells.length ∧ gi τ.own k = n) (hc : ∀ a : Nat, σ.cells.length ≤ a → a < τ.cells.length → CellOk U' τ a)
    (hd : ∀ n : Nat, σ.cells.length ≤ n → n < τ.cells.length → 0 ≤ gi τ.own n → (ci τ.cells n).1 = 1) (con : ∀ t ∈ τ.consts, Bd t ∧ t.args = []) (fn : ∀ k ∈ τ.funs, k.1.size ≤ maxLen) : WF U' τ := by
  have hcl := g.cells.length_le
  have hvl := g.vars.length_le
  refine ⟨lo, lf, fun n hn => ?_, fun a ha => ?_, fun c hm => ?_, con, fn⟩
  · by_cases q : n < σ.vars.length
    · obtain ⟨k, h1, h2, h3⟩ := h.var n q
      exact ⟨k, by rw [z1x g.vars q]; exact h1, by omega, by rw [z1x g.own (by have := h.lo; omega)]; exact h3⟩
    · exact hv n (by omega) hn
  · by_cases q : a < σ.cells.length
    · have e1 := z50 g.cells q
      have e2 := z1x g.own (show a < σ.own.length by have := h.lo; omega)
      cases h.cell a q with
      | var v h1 h2 h3 h4 => exact .var v (e2.trans h1) (by omega) (by rw [z1x g.vars h2]; exact h3) (by rw [e1]; rcases h4 with h4 | h4; exact .inl h4; exact .inr ⟨h4.1, z5z g h.lo h4.2⟩)
      | fn f h1 h2 hf h4 h5 h6 =>
        have hfl := g.funs.length_le
        have ef : τ.funs[f]'(by omega) = σ.funs[f] := by
          obtain ⟨t, ht⟩ := g.funs
          simp only [← ht]
          rw [List.getElem_append_left hf]
        refine .fn f (e2.trans h1) (e1.trans h2) (by omega) (by rw [ef]; exact h4) (by rw [ef]; exact h5) fun i hi => ?_
        rw [ef] at hi
        have := h6 i hi
        exact ⟨by omega, by rw [z1x g.own (by have := h.lo; omega)]; exact this.2⟩
      | arg h1 h2 => exact .arg (e2.trans h1) (by rw [e1]; rcases h2 with h2 | h2; exact .inl (z5z g h.lo h2); exact .inr (hu a q h2))
    · exact hc a (by omega) ha
  · by_cases h2 : c.1 = 2
    · have hm' := hm
      rw [z2b] at hm'
      rcases hm' with q | ⟨-, b, d, e⟩ | q
      · omega
      · obtain ⟨n, en⟩ := Int.eq_ofNat_of_zero_le b
        rw [en] at d e
        by_cases q : n < σ.cells.length
        · have hσ : mayS σ c = true := by
            rw [z2b]
            refine .inr (.inl ⟨h2, b, by omega, ?_⟩)
            rw [en, ← z1x g.own (show n < σ.own.length by have := h.lo; omega)]; exact e
          obtain ⟨m, d', hd'⟩ := h.der c hσ
          exact ⟨m, d', h.derc hcl (fun k hk _ => z50 g.cells hk) hd' hσ⟩
        · exact ⟨0, c, .var h2 b (by omega) (by rw [en]; exact hd n (by omega) (by omega) e)⟩
      · omega
    · exact ⟨0, c, .stop h2⟩
end Go.Proofs.YthkogijbkachdaaDoor.hb
end

-- Sq2
section
namespace Go.Proofs.YthkogijbkachdaaDoor.hb
open Go Go.RowKit Go.Hb
def makeS (σ : SS) : SS := { σ with vars := σ.vars ++ [(σ.cells.length : Int)], flags := σ.flags ++ [false], cells := σ.cells ++ [(1, (σ.vars.length : Int))], own := σ.own ++ [(σ.vars.length : Int)] }
theorem zaw {l : List Int} {x : Int} {m : List Int} : gi (l ++ x :: m) (l.length : Nat) = x := by
  unfold gi; rw [Int.toNat_natCast, List.getElem?_append_right (Nat.le_refl _), Nat.sub_self]; rfl
theorem zdm {l : List (Int × Int)} {x : Int × Int} {m : List (Int × Int)} : ci (l ++ x :: m) (l.length : Nat) = x := by
  unfold ci; rw [Int.toNat_natCast, List.getElem?_append_right (Nat.le_refl _), Nat.sub_self]; rfl
theorem z7d (σ : SS) : Grow σ (makeS σ) := ⟨List.prefix_append _ _, List.prefix_append _ _, List.prefix_append _ _, List.prefix_append _ _, List.prefix_refl _, List.prefix_refl _⟩
theorem zhq {U : Nat → Prop} {σ : SS} (h : WF U σ) : WF U (makeS σ) := by
  have hlo := h.lo
  have e1 : gi (makeS σ).vars (σ.vars.length : Nat) = (σ.cells.length : Nat) := zaw
  have e2 : gi (makeS σ).own (σ.cells.length : Nat) = (σ.vars.length : Nat) := by rw [← hlo]; exact zaw
  have e3 : ci (makeS σ).cells (σ.cells.length : Nat) = (1, ((σ.vars.length : Nat) : Int)) := zdm
  have l1 : (makeS σ).cells.length = σ.cells.length + 1 := by simp [makeS]
  have l2 : (makeS σ).vars.length = σ.vars.length + 1 := by simp [makeS]
  refine h.grow (z7d σ) (by simp [makeS, hlo]) (by simp [makeS, h.lf]) (fun _ _ q => q) (fun n h1 h2 => ?_) (fun a h1 h2 => ?_) (fun n h1 h2 _ => ?_) h.con h.fn
  · obtain rfl : n = σ.vars.length := by omega
    exact ⟨σ.cells.length, e1, by omega, e2⟩
  · obtain rfl : a = σ.cells.length := by omega
    exact .var σ.vars.length e2 (by omega) e1 (.inl e3)
  · obtain rfl : n = σ.cells.length := by omega
    rw [e3]
inductive BdA : Tm → Prop
  | mk {t : Tm} : Bd t → (∀ u ∈ t.args, BdA u) → BdA t
theorem BdA.bd {t : Tm} (h : BdA t) : Bd t := by cases h; assumption
theorem BdA.args {t : Tm} (h : BdA t) : ∀ u ∈ t.args, BdA u := by cases h; assumption
theorem zhr {H : Heap} : ∀ (m : Nat) {t : Tm} {cs : List Value}, SizeOf.sizeOf t < m → RepT H t cs → BdA t
  | 0, _, _, h, _ => by omega
  | m + 1, t, cs, h, r => by
    refine .mk r.bd fun u hu => ?_
    obtain ⟨a, c, cells, rfl, -, -, -, -, -, rl⟩ := r.six
    obtain ⟨i, hi, rfl⟩ := List.getElem_of_mem hu
    obtain ⟨b, o, a1, c1, -, -, hr⟩ := rl.el hi
    exact zhr m (by have := z0u hu; omega) hr
theorem z7e (σ : SS) (t : Tm) : Grow σ (atomicS σ t).1 := by
  unfold atomicS
  split
  · exact Grow.refl σ
  · exact ⟨List.prefix_refl _, List.prefix_refl _, List.prefix_refl _, List.prefix_refl _, List.prefix_append _ _, List.prefix_refl _⟩
theorem zex (σ : SS) (t : Tm) : (atomicS σ t).2 < (atomicS σ t).1.consts.length := by
  unfold atomicS
  split
  · rename_i j hj; exact (List.findIdx?_eq_some_iff_getElem.1 hj).1
  · simp
theorem zax (σ : SS) (k : ByteArray × Int) : Grow σ (functorS σ k).1 := by
  unfold functorS
  split
  · exact Grow.refl σ
  · exact ⟨List.prefix_refl _, List.prefix_refl _, List.prefix_refl _, List.prefix_refl _, List.prefix_refl _, List.prefix_append _ _⟩
theorem zc0 (σ : SS) (k : ByteArray × Int) : ∃ h : (functorS σ k).2 < (functorS σ k).1.funs.length, (functorS σ k).1.funs[(functorS σ k).2].2 = k.2 := by
  unfold functorS
  split
  · rename_i j hj
    obtain ⟨h1, h2, -⟩ := List.findIdx?_eq_some_iff_getElem.1 hj
    refine ⟨h1, ?_⟩
    unfold eqFun at h2
    rw [Bool.and_eq_true] at h2
    exact (eq_of_beq h2.2).symm
  · exact ⟨by simp, by simp⟩
theorem zey {σ : SS} {k : ByteArray × Int} (h : ∀ k ∈ σ.funs, k.1.size ≤ maxLen) (hk : k.1.size ≤ maxLen) : ∀ k' ∈ (functorS σ k).1.funs, k'.1.size ≤ maxLen := by
  unfold functorS
  split
  · exact h
  · intro k' hk'
    rcases List.mem_append.1 hk' with q | q
    · exact h _ q
    · rw [List.mem_singleton] at q; rw [q]; exact hk
theorem zez {σ : SS} {t : Tm} (h : ∀ t ∈ σ.consts, Bd t ∧ t.args = []) (hb : Bd t) (ha : t.args = []) : ∀ u ∈ (atomicS σ t).1.consts, Bd u ∧ u.args = [] := by
  unfold atomicS
  split
  · exact h
  · intro u hu
    rcases List.mem_append.1 hu with q | q
    · exact h _ q
    · rw [List.mem_singleton] at q; rw [q]; exact ⟨hb, ha⟩
theorem WF.atomic {U : Nat → Prop} {σ : SS} {t : Tm} (h : WF U σ) (hb : Bd t) (ha : t.args = []) : WF U (atomicS σ t).1 := by
  have hs := z5o σ t
  refine h.grow (z7e σ t) ?_ ?_ (fun _ _ q => q) (fun n h1 h2 => ?_) (fun a h1 h2 => ?_) (fun n h1 h2 _ => ?_) (zez h.con hb ha) ?_
  · rw [hs.2.2.1, hs.2.2.2.1]; exact h.lo
  · rw [hs.1, hs.2.1]; exact h.lf
  · rw [hs.1] at h2; omega
  · rw [hs.2.2.1] at h2; omega
  · rw [hs.2.2.1] at h2; omega
  · rw [hs.2.2.2.2.1]; exact h.fn
theorem zhs {l : List Int} {x : Int} {n i : Nat} (hi : i < n) : gi (l ++ [x] ++ List.replicate n (-2)) ((l.length + 1 + i : Nat) : Int) = -2 := by
  unfold gi
  rw [Int.toNat_natCast, List.getElem?_append_right (by simp)]
  simp only [List.length_append, List.length_singleton]
  rw [show l.length + 1 + i - (l.length + 1) = i by omega, List.getElem?_replicate, if_pos hi]; rfl
theorem z7f (σ : SS) (k : ByteArray × Int) (n : Nat) : Grow σ (layH σ k n) := by
  have g := zax σ k
  have hs := z1z σ k
  refine ⟨?_, ?_, ?_, ?_, ?_, g.funs⟩
  · exact ⟨[(5, ((functorS σ k).2 : Int))] ++ List.replicate n (0, 0), by simp [layH]⟩
  · exact ⟨[-1] ++ List.replicate n (-2), by simp [layH]⟩
  · exact g.vars
  · exact g.flags
  · exact g.consts
theorem zht {U : Nat → Prop} {σ : SS} {nm : ByteArray} {n : Nat} (h : WF U σ) (hn : n ≤ 64) (hnm : nm.size ≤ maxLen) : WF (fun a => U a ∨ (σ.cells.length + 1 ≤ a ∧ a < σ.cells.length + 1 + n)) (layH σ (nm, (n : Int)) n) := by
  have hs := z1z σ (nm, (n : Int))
  have hg := zao σ (nm, (n : Int)) n
  have hlo := h.lo
  have e1 : gi (layH σ (nm, (n : Int)) n).own (σ.cells.length : Nat) = -1 := by rw [← hlo]; show gi (σ.own ++ [-1] ++ List.replicate n (-2)) _ = _; rw [List.append_assoc]; exact zaw
  have e2 : ci (layH σ (nm, (n : Int)) n).cells (σ.cells.length : Nat) = (5, ((functorS σ (nm, (n : Int))).2 : Int)) := by show ci (σ.cells ++ [_] ++ List.replicate n (0, 0)) _ = _; rw [List.append_assoc]; exact zdm
  have e3 : ∀ i, i < n → gi (layH σ (nm, (n : Int)) n).own ((σ.cells.length + 1 + i : Nat) : Int) = -2 := fun i hi => by rw [← hlo]; exact zhs hi
  obtain ⟨hfn, hfa⟩ := zc0 σ (nm, (n : Int))
  refine h.grow (z7f σ _ n) (by rw [hg.2.2.2.2.1, hg.2.2.2.2.2.1, hlo]) (by rw [hg.1, hg.2.1]; exact h.lf) (fun a _ q => .inl q) (fun m h1 h2 => by rw [hg.1] at h2; omega) (fun a h1 h2 => ?_) (fun m h1 h2 h3 => ?_) (by rw [hg.2.2.2.2.2.2.1]; exact h.con) (zey h.fn hnm)
  · rw [hg.2.2.2.2.1] at h2
    by_cases q : a = σ.cells.length
    · subst q
      refine .fn (functorS σ (nm, (n : Int))).2 e1 e2 hfn ?_ ?_ fun i hi => ?_
      · show 0 ≤ ((functorS σ (nm, (n : Int))).1.funs[(functorS σ (nm, (n : Int))).2]'hfn).2
        rw [hfa]; show (0 : Int) ≤ (n : Int); omega
      · show ((functorS σ (nm, (n : Int))).1.funs[(functorS σ (nm, (n : Int))).2]'hfn).2 ≤ 1000
        rw [hfa]; show (n : Int) ≤ 1000; omega
      · have hi' : (i : Int) < ((functorS σ (nm, (n : Int))).1.funs[(functorS σ (nm, (n : Int))).2]'hfn).2 := hi
        rw [hfa] at hi'
        have hi2 : (i : Int) < (n : Int) := hi'
        exact ⟨by rw [hg.2.2.2.2.1]; omega, e3 i (by omega)⟩
    · obtain ⟨i, rfl⟩ : ∃ i, a = σ.cells.length + 1 + i := ⟨a - (σ.cells.length + 1), by omega⟩
      exact .arg (e3 i (by omega)) (.inr (.inr ⟨by omega, by omega⟩))
  · rw [hg.2.2.2.2.1] at h2
    by_cases q : m = σ.cells.length
    · subst q; rw [e1] at h3; omega
    · obtain ⟨i, rfl⟩ : ∃ i, m = σ.cells.length + 1 + i := ⟨m - (σ.cells.length + 1), by omega⟩
      rw [e3 i (by omega)] at h3; omega
theorem WF.fill {U U' : Nat → Prop} {σ : SS} {a : Nat} {c : Int × Int} (h : WF U σ) (ha : a < σ.cells.length) (ho : gi σ.own a = -2) (hm : mayS σ c = true) (hu : ∀ b, b ≠ a → U b → U' b) : WF U' { σ with cells := σ.cells.set a c } := by
  have hmay : ∀ x, mayS { σ with cells := σ.cells.set a c } x = mayS σ x := fun x => by
    unfold mayS; simp only [List.length_set]
  have hci : ∀ b : Nat, b ≠ a → ci (σ.cells.set a c) b = ci σ.cells b := fun b hb => by rw [z51 ha, if_neg hb]
  refine ⟨by simp only [List.length_set]; exact h.lo, h.lf, fun n hn => ?_, fun b hb => ?_, fun x hx => ?_, h.con, h.fn⟩
  · obtain ⟨k, h1, h2, h3⟩ := h.var n hn
    exact ⟨k, h1, by simp only [List.length_set]; exact h2, h3⟩
  · simp only [List.length_set] at hb
    by_cases q : b = a
    · subst q
      refine .arg ho (.inl ?_)
      show mayS _ (ci (σ.cells.set b c) b) = true
      rw [z51 ha, if_pos rfl, hmay]; exact hm
    · cases h.cell b hb with
      | var v h1 h2 h3 h4 => exact .var v h1 h2 h3 (by simp only [hci b q, hmay]; exact h4)
      | fn f h1 h2 hf h4 h5 h6 => exact .fn f h1 ((hci b q).trans h2) hf h4 h5 (by simp only [List.length_set]; exact h6)
      | arg h1 h2 => exact .arg h1 (by simp only [hci b q, hmay]; rcases h2 with h2 | h2; exact .inl h2; exact .inr (hu b q h2))
  · rw [hmay] at hx
    obtain ⟨m, d, hd⟩ := h.der x hx
    exact ⟨m, d, h.derc (by simp only [List.length_set]; exact Nat.le_refl _) (fun n hn ho' => hci n (fun e => by subst e; omega)) hd hx⟩
theorem zdn {σ τ : SS} {k : Nat} {c : Int × Int} (g : Grow σ τ) (hk : σ.cells.length ≤ k) : Grow σ { τ with cells := τ.cells.set k c } := by
  refine ⟨?_, g.own, g.vars, g.flags, g.consts, g.funs⟩
  obtain ⟨t, ht⟩ := g.cells
  refine ⟨t.set (k - σ.cells.length) c, ?_⟩
  show σ.cells ++ t.set (k - σ.cells.length) c = τ.cells.set k c
  rw [← ht, List.set_append_right _ _ hk]
theorem WF.imp {U U' : Nat → Prop} {σ : SS} (h : WF U σ) (hu : ∀ a, U a → U' a) : WF U' σ :=
  ⟨h.lo, h.lf, h.var, fun a ha => by
    cases h.cell a ha with
    | var v h1 h2 h3 h4 => exact .var v h1 h2 h3 h4
    | fn f h1 h2 hf h4 h5 h6 => exact .fn f h1 h2 hf h4 h5 h6
    | arg h1 h2 => exact .arg h1 (h2.imp_right (hu a)), h.der, h.con, h.fn⟩
theorem zdo : ∀ (m : Nat) {t : Tm} {U : Nat → Prop} {σ : SS}, SizeOf.sizeOf t < m → WF U σ → (∀ a, U a → a < σ.cells.length) → Fine t → BdA t → (∀ v ∈ occ t, okV σ v) → WF U (layS σ t).1 ∧ mayS (layS σ t).1 (layS σ t).2 = true ∧ Grow σ (layS σ t).1
  | 0, _, _, _, h, _, _, _, _, _ => by omega
  | m + 1, t, U, σ, hsz, h, hU, hf, hb, hocc => by
    by_cases k1 : t.kind = 1
    · rw [z5y k1]
      have hv := hocc t.var (by rw [z5m, if_pos k1]; simp)
      obtain ⟨n, en⟩ := Int.eq_ofNat_of_zero_le hv.1
      obtain ⟨k, h1, h2, h3⟩ := h.var n (by have := hv.2.1; omega)
      refine ⟨h, ?_, Grow.refl σ⟩
      rw [z2b]
      refine .inr (.inl ⟨rfl, ?_⟩)
      rw [en, h1]
      exact ⟨by show (0 : Int) ≤ (k : Int); omega, by show (k : Int) < (σ.cells.length : Int); omega, by show 0 ≤ gi σ.own (k : Int); rw [h3]; omega⟩
    · by_cases k5 : t.kind = 5
      · rw [z4w k5]
        have hn : t.args.length ≤ 64 := z5x hf
        have hH := zht (nm := t.name) (n := t.args.length) h hn hb.bd.name
        have hg := zao σ (t.name, (t.args.length : Int)) t.args.length
        have hlo := h.lo
        have e3 : ∀ i, i < t.args.length → gi (layH σ (t.name, (t.args.length : Int)) t.args.length).own ((σ.cells.length + 1 + i : Nat) : Int) = -2 := fun i hi => by rw [← hlo]; exact zhs hi
        have key : ∀ i, i ≤ t.args.length → WF (fun a => U a ∨ (σ.cells.length + 1 + i ≤ a ∧ a < σ.cells.length + 1 + t.args.length)) (layA (layH σ (t.name, (t.args.length : Int)) t.args.length) σ.cells.length 0 (t.args.take i)) ∧
            Grow σ (layA (layH σ (t.name, (t.args.length : Int)) t.args.length) σ.cells.length 0 (t.args.take i)) ∧ (layH σ (t.name, (t.args.length : Int)) t.args.length).own <+: (layA (layH σ (t.name, (t.args.length : Int)) t.args.length) σ.cells.length 0 (t.args.take i)).own ∧
            σ.cells.length + 1 + t.args.length ≤ (layA (layH σ (t.name, (t.args.length : Int)) t.args.length) σ.cells.length 0 (t.args.take i)).cells.length := by
          intro i
          induction i with
          | zero => intro _; rw [List.take_zero, layA, Nat.add_zero]; exact ⟨hH, z7f _ _ _, List.prefix_refl _, by rw [hg.2.2.2.2.1]; exact Nat.le_refl _⟩
          | succ i ih =>
            intro hi
            have hlt : i < t.args.length := by omega
            obtain ⟨i1, i2, i3, i4⟩ := ih (by omega)
            have hAv := (zan (σ := layH σ (t.name, (t.args.length : Int)) t.args.length) (at' := σ.cells.length) (l := t.args) (fun u _ σ => z7a _ u (Nat.lt_succ_self _) σ) i (by omega)).vars
            rw [z4x hlt]
            generalize layA (layH σ (t.name, (t.args.length : Int)) t.args.length) σ.cells.length 0 (t.args.take i) = τ at *
            have hu := List.getElem_mem hlt
            have hcl := i2.cells.length_le
            obtain ⟨j1, j2, j3⟩ := zdo m (t := t.args[i]) (U := fun a => U a ∨ (σ.cells.length + 1 + i ≤ a ∧ a < σ.cells.length + 1 + t.args.length)) (σ := τ) (by have := z0u hu; omega) i1
              (fun a ha => by rcases ha with ha | ha; have := hU a ha; omega; omega) (hf.args _ hu) (hb.args _ hu) (fun v hv => by
                have := hocc v (z94 hu hv)
                have ev := hAv.trans hg.1
                unfold okV at this ⊢
                rw [ev]; exact this)
            have ho : gi (layS τ t.args[i]).1.own ((σ.cells.length + 1 + i : Nat) : Int) = -2 := by
              have h1 : σ.cells.length + 1 + i < (layH σ (t.name, (t.args.length : Int)) t.args.length).own.length := by rw [hg.2.2.2.2.2.1, hlo]; omega
              rw [z1x (i3.trans j3.own) h1]; exact e3 i hlt
            have hc1 := j3.cells.length_le
            refine ⟨j1.fill (by omega) ho j2 (fun b hb hbu => ?_), zdn (i2.trans j3) (by omega), i3.trans j3.own, by simp only [List.length_set]; omega⟩
            rcases hbu with hbu | hbu
            · exact .inl hbu
            · exact .inr ⟨by omega, by omega⟩
        obtain ⟨k1', k2, k3, k4⟩ := key t.args.length (Nat.le_refl _)
        rw [List.take_length] at k1' k2 k3 k4
        refine ⟨k1'.imp (fun a ha => by rcases ha with ha | ha; exact ha; omega), ?_, k2⟩
        rw [z2b]
        have h1 : σ.cells.length < (layH σ (t.name, (t.args.length : Int)) t.args.length).own.length := by rw [hg.2.2.2.2.2.1, hlo]; omega
        have e1 : gi (layH σ (t.name, (t.args.length : Int)) t.args.length).own (σ.cells.length : Nat) = -1 := by rw [← hlo]; show gi (σ.own ++ [-1] ++ List.replicate _ (-2)) _ = _; rw [List.append_assoc]; exact zaw
        have e2 := (z1x k3 h1).trans e1
        refine .inr (.inr ⟨rfl, ?_⟩)
        show (0 : Int) ≤ (σ.cells.length : Int) ∧ (σ.cells.length : Int) < _ ∧ gi _ (σ.cells.length : Int) < 0 ∧ gi _ (σ.cells.length : Int) ≠ -2
        rw [e2]
        exact ⟨by omega, by show (σ.cells.length : Int) < ((layA (layH σ (t.name, (t.args.length : Int)) t.args.length) σ.cells.length 0 t.args).cells.length : Int); omega, by omega, by omega⟩
      · rw [z4v k1 k5]
        have hk := z3j hf.node
        have hargs : t.args = [] := (z1v hk.2.2.1).2.2.2.2 k5
        refine ⟨h.atomic hb.bd hargs, ?_, z7e σ t⟩
        rw [z2b]
        have := zex σ t
        exact .inl ⟨rfl, by show (0 : Int) ≤ ((atomicS σ t).2 : Int); omega, by show ((atomicS σ t).2 : Int) < ((atomicS σ t).1.consts.length : Int); omega⟩
end Go.Proofs.YthkogijbkachdaaDoor.hb
end

-- Sq3
section
namespace Go.Proofs.YthkogijbkachdaaDoor.hb
open Go Go.RowKit Go.Hb
abbrev noU : Nat → Prop := fun _ => False
theorem WF.tok {σ : SS} (h : WF noU σ) (hc : σ.cells.length ≤ most) (hv : σ.vars.length ≤ most) : TOk σ := by
  refine ⟨fun c hm => ?_, h.con, h.fn, hc⟩
  obtain ⟨m, d, hd⟩ := h.der c hm
  obtain ⟨hdm, hd2⟩ := h.dmay hd hm
  refine ⟨m, d, hd, ?_⟩
  have hdm' := hdm
  rw [z2b] at hdm
  rcases hdm with ⟨a, b, e⟩ | ⟨a, b, e, f⟩ | ⟨a, b, e, f, g⟩
  · exact .con a b e
  · refine .var a b e ?_
    obtain ⟨n, en⟩ := Int.eq_ofNat_of_zero_le b
    have h1 := hd2 a
    rw [en] at e f h1 ⊢
    cases h.cell n (by omega) with
    | var v _ hv' _ q =>
      rcases q with q | q
      · rw [q]; unfold most at hv; exact ⟨by show -9223372036854775808 ≤ (v : Int); omega, by show (v : Int) ≤ 9223372036854775807; omega⟩
      · exact absurd h1 q.1
    | fn f' q => omega
    | arg q => omega
  · obtain ⟨n, en⟩ := Int.eq_ofNat_of_zero_le b
    rw [en] at e f g
    cases h.cell n (by omega) with
    | var v q => omega
    | arg q => omega
    | fn f' q1 q2 hf q3 q4 q5 =>
      refine .str f' a b (by omega) (by rw [en, q2]) hf q3 q4 fun i hi => ?_
      obtain ⟨r1, r2⟩ := q5 i hi
      have ei : d.2 + 1 + (i : Int) = ((n + 1 + i : Nat) : Int) := by omega
      rw [ei]
      refine ⟨by omega, ?_⟩
      cases h.cell (n + 1 + i) r1 with
      | var v q => omega
      | fn f'' q => omega
      | arg _ q => rcases q with q | q; exact q; exact q.elim
theorem WF.bind {σ : SS} {v : Int} {c : Int × Int} (h : WF noU σ) : WF noU (bindS σ v c).1 ∧ ((bindS σ v c).1 = σ ∨ ∃ n k : Nat, v = n ∧ n < σ.vars.length ∧ gi σ.vars n = k ∧ k < σ.cells.length ∧ ci σ.cells k = (1, (n : Int)) ∧ (bindS σ v c).1 = { σ with cells := σ.cells.set k (dr σ.cells c), trail := σ.trail ++ [(0, (n : Int))] }) := by
  by_cases h0 : freeS σ v = 0
  rotate_left
  · have e : bindS σ v c = (σ, freeS σ v) := by rw [bindS, if_pos h0]
    rw [e]; exact ⟨h, .inl rfl⟩
  cases hm : mayS σ c with
  | false =>
    have e : bindS σ v c = (σ, 130) := by rw [bindS, if_neg (by omega), if_pos hm]
    rw [e]; exact ⟨h, .inl rfl⟩
  | true =>
    by_cases hq : dr σ.cells c = (2, gi σ.vars v)
    · have e : bindS σ v c = (σ, 1) := by rw [bindS, if_neg (by omega), if_neg (by rw [hm]; simp), if_pos hq]
      rw [e]; exact ⟨h, .inl rfl⟩
    · obtain ⟨hv, h1⟩ := z3u h0
      obtain ⟨n, rfl⟩ := Int.eq_ofNat_of_zero_le hv.1
      have hn : n < σ.vars.length := by have := hv.2.1; omega
      obtain ⟨k, ek, hk, ok⟩ := h.var n hn
      rw [ek] at h1 hq
      have ecell : ci σ.cells k = (1, (n : Int)) := by
        cases h.cell k hk with
        | var w q1 q2 q3 q4 =>
          have : w = n := by omega
          subst this
          rcases q4 with q4 | q4
          · exact q4
          · exact absurd h1 q4.1
        | fn f q => omega
        | arg q => omega
      have e : bindS σ (n : Int) c = ({ σ with cells := σ.cells.set k (dr σ.cells c), trail := σ.trail ++ [(0, (n : Int))] }, 0) := by rw [bindS, if_neg (by omega), if_neg (by rw [hm]; simp), ek, if_neg hq]; rfl
      rw [e]
      refine ⟨?_, .inr ⟨n, k, rfl, hn, ek, hk, ecell, rfl⟩⟩
      obtain ⟨m, d, hd⟩ := h.der c hm
      obtain ⟨hdm, hd2⟩ := h.dmay hd hm
      have ed := zby hd
      rw [ed] at hq
      show WF noU { σ with cells := σ.cells.set k (dr σ.cells c), trail := _ }
      rw [ed]
      have hmay : ∀ x, mayS { σ with cells := σ.cells.set k d, trail := σ.trail ++ [(0, (n : Int))] } x = mayS σ x := fun x => by unfold mayS; simp only [List.length_set]
      have hci : ∀ b : Nat, b ≠ k → ci (σ.cells.set k d) b = ci σ.cells b := fun b hb => by rw [z51 hk, if_neg hb]
      have hd1 : d.1 ≠ 1 := by rw [z2b] at hdm; omega
      refine ⟨by simp only [List.length_set]; exact h.lo, h.lf, fun w hw => ?_, fun b hb => ?_, fun x hx => ?_, h.con, h.fn⟩
      · obtain ⟨k', h1, h2, h3⟩ := h.var w hw
        exact ⟨k', h1, by simp only [List.length_set]; exact h2, h3⟩
      · simp only [List.length_set] at hb
        by_cases q : b = k
        · subst q
          refine .var n ok hn ek (.inr ?_)
          show (ci (σ.cells.set b d) b).1 ≠ 1 ∧ mayS _ (ci (σ.cells.set b d) b) = true
          rw [z51 hk, if_pos rfl, hmay]
          exact ⟨hd1, hdm⟩
        · cases h.cell b hb with
          | var w h1 h2 h3 h4 => exact .var w h1 h2 h3 (by simp only [hci b q, hmay]; exact h4)
          | fn f h1 h2 hf h4 h5 h6 => exact .fn f h1 ((hci b q).trans h2) hf h4 h5 (by simp only [List.length_set]; exact h6)
          | arg h1 h2 => exact .arg h1 (by simp only [hci b q, hmay]; exact h2)
      · rw [hmay] at hx
        obtain ⟨m', e', he⟩ := h.der x hx
        clear hd hm e
        have hdd : Der (σ.cells.set k d) 0 d d := by
          by_cases q : d.1 = 2
          · have hdm2 := hdm
            rw [z2b] at hdm2
            rcases hdm2 with r | ⟨-, b, e, f⟩ | r
            · omega
            · obtain ⟨j, ej⟩ := Int.eq_ofNat_of_zero_le b
              have hj : j ≠ k := fun r => hq (Prod.ext q (by rw [ej, r]))
              refine .var q b (by simp only [List.length_set]; exact e) ?_
              rw [ej, hci j hj, ← ej]; exact hd2 q
            · omega
          · exact .stop q
        clear hx
        induction he with
        | stop h1 => exact ⟨0, _, .stop h1⟩
        | @var x i1 i2 i3 i4 =>
          obtain ⟨j, ej⟩ := Int.eq_ofNat_of_zero_le i2
          by_cases q : j = k
          · subst q
            refine ⟨1, d, .go i1 i2 (by simp only [List.length_set]; exact i3) ?_ ?_⟩
            · show (ci (σ.cells.set j d) x.2).1 ≠ 1
              rw [ej, z51 hk, if_pos rfl]; exact hd1
            · show Der (σ.cells.set j d) 0 (ci (σ.cells.set j d) x.2) d
              rw [ej, z51 hk, if_pos rfl]; exact hdd
          · exact ⟨0, _, .var i1 i2 (by simp only [List.length_set]; exact i3) (by show (ci (σ.cells.set k d) x.2).1 = 1; rw [ej, hci j q, ← ej]; exact i4)⟩
        | @go nn x y i1 i2 i3 i4 _ ih =>
          obtain ⟨m2, e2, ih⟩ := ih
          obtain ⟨j, ej⟩ := Int.eq_ofNat_of_zero_le i2
          have q : j ≠ k := fun q => by rw [ej, q, ecell] at i4; exact i4 rfl
          refine ⟨m2 + 1, e2, .go i1 i2 (by simp only [List.length_set]; exact i3) ?_ ?_⟩
          · show (ci (σ.cells.set k d) x.2).1 ≠ 1
            rw [ej, hci j q, ← ej]; exact i4
          · show Der (σ.cells.set k d) m2 (ci (σ.cells.set k d) x.2) e2
            rw [ej, hci j q, ← ej]; exact ih
theorem WF.other {U : Nat → Prop} {σ : SS} {t : List (Int × Int)} {m : List (Int × Int × Int)} {f : List Bool} (h : WF U σ) (hf : f.length = σ.flags.length) : WF U { σ with trail := t, marks := m, flags := f } :=
  ⟨h.lo, by simp only [hf]; exact h.lf, h.var, fun a ha => by
    cases h.cell a ha with
    | var v h1 h2 h3 h4 => exact .var v h1 h2 h3 h4
    | fn f h1 h2 hf h4 h5 h6 => exact .fn f h1 h2 hf h4 h5 h6
    | arg h1 h2 => exact .arg h1 h2, h.der, h.con, h.fn⟩
end Go.Proofs.YthkogijbkachdaaDoor.hb
end

-- Sq4
section
namespace Go.Proofs.YthkogijbkachdaaDoor.hb
open Go Go.RowKit Go.Hb
structure Back (σ0 σ : SS) : Prop where
  tr : σ0.trail <+: σ.trail
  up : Grow σ0 (undoL σ (σ.trail.drop σ0.trail.length))
theorem Back.refl (σ : SS) : Back σ σ := ⟨List.prefix_refl _, by rw [List.drop_length]; exact Grow.refl σ⟩
theorem z48 (σ : SS) (t : List (Int × Int)) (m : List (Int × Int × Int)) : ∀ L, undoL { σ with trail := t, marks := m } L = { undoL σ L with trail := t, marks := m }
  | [] => rfl
  | x :: L => by
    show undo1 x (undoL { σ with trail := t, marks := m } L) = { undo1 x (undoL σ L) with trail := t, marks := m }
    rw [z48 σ t m L]
    unfold undo1
    split <;> rfl
theorem Grow.other {σ0 σ : SS} (h : Grow σ0 σ) (t : List (Int × Int)) (m : List (Int × Int × Int)) : Grow σ0 { σ with trail := t, marks := m } := ⟨h.cells, h.own, h.vars, h.flags, h.consts, h.funs⟩
theorem zhu {α : Type} {l m : List α} (h : l <+: m) {k : Nat} {y : α} (hk : k < l.length) : l.set k y <+: m.set k y := by
  obtain ⟨t, rfl⟩ := h
  exact ⟨t, by rw [List.set_append_left _ _ hk]⟩
theorem zf0 {σ τ : SS} {x : Int × Int} (g : Grow σ τ) (hx : TrOk σ x) (hf : σ.flags.length = σ.vars.length) : Grow (undo1 x σ) (undo1 x τ) := by
  obtain ⟨-, n, k, ex, hn, ek, hk⟩ := hx
  unfold undo1
  split
  · refine ⟨?_, g.own, g.vars, g.flags, g.consts, g.funs⟩
    show σ.cells.set (gi σ.vars x.2).toNat _ <+: τ.cells.set (gi τ.vars x.2).toNat _
    rw [ex, z1x g.vars hn, ek]
    exact zhu g.cells (by rw [Int.toNat_natCast]; exact hk)
  · refine ⟨g.cells, g.own, g.vars, ?_, g.consts, g.funs⟩
    exact zhu g.flags (by rw [ex, Int.toNat_natCast, hf]; exact hn)
theorem TrOk.same {σ τ : SS} {x : Int × Int} (h : TrOk σ x) (hv : τ.vars = σ.vars) (hc : τ.cells.length = σ.cells.length) : TrOk τ x := by
  obtain ⟨a, n, k, b, c, d, e⟩ := h
  exact ⟨a, n, k, b, by rw [hv]; exact c, by rw [hv]; exact d, by rw [hc]; exact e⟩
theorem TrOk.grow {σ τ : SS} {x : Int × Int} (h : TrOk σ x) (g : Grow σ τ) : TrOk τ x := by
  obtain ⟨a, n, k, b, c, d, e⟩ := h
  have h1 := g.vars.length_le
  have h2 := g.cells.length_le
  exact ⟨a, n, k, b, by omega, by rw [z1x g.vars c]; exact d, by omega⟩
theorem z8b {σ τ : SS} (g : Grow σ τ) (hf : σ.flags.length = σ.vars.length) : ∀ L : List (Int × Int), (∀ x ∈ L, TrOk σ x) → Grow (undoL σ L) (undoL τ L)
  | [], _ => g
  | x :: L, h => by
    have ih := z8b g hf L fun y hy => h y (List.mem_cons_of_mem _ hy)
    have hs := z1h σ L
    exact zf0 ih ((h x (by simp)).same hs.1 hs.2.2.2.2.2.2.1) (by have e := hs.2.2.2.2.2.2.2; have e2 := hs.1; show (undoL σ L).flags.length = (undoL σ L).vars.length; rw [e, e2]; exact hf)
theorem Back.grow {σ0 σ τ : SS} (h : Back σ0 σ) (g : Grow σ τ) (ht : τ.trail = σ.trail) (hf : σ.flags.length = σ.vars.length) (htr : ∀ x ∈ σ.trail, TrOk σ x) : Back σ0 τ :=
  ⟨by rw [ht]; exact h.tr, by rw [ht]; exact h.up.trans (z8b g hf _ fun x hx => htr x (List.mem_of_mem_drop hx))⟩
theorem Back.marks {σ0 σ : SS} (h : Back σ0 σ) (m : List (Int × Int × Int)) : Back σ0 { σ with marks := m } :=
  ⟨h.tr, by
    have := z48 σ σ.trail m (σ.trail.drop σ0.trail.length)
    show Grow σ0 (undoL { σ with trail := σ.trail, marks := m } _)
    rw [this]; exact h.up.other _ _⟩
theorem Back.entry {σ0 σ τ : SS} {x : Int × Int} (h : Back σ0 σ) (ht : τ.trail = σ.trail ++ [x]) (hu : undo1 x τ = { σ with trail := τ.trail }) : Back σ0 τ := by
  have hl := h.tr.length_le
  refine ⟨by rw [ht]; exact h.tr.trans (List.prefix_append _ _), ?_⟩
  have e : τ.trail.drop σ0.trail.length = σ.trail.drop σ0.trail.length ++ [x] := by rw [ht, List.drop_append_of_le_length hl]
  have e2 : undoL τ (σ.trail.drop σ0.trail.length ++ [x]) = undoL (undo1 x τ) (σ.trail.drop σ0.trail.length) := by
    unfold undoL; rw [List.foldr_append]; rfl
  rw [e, e2, hu]
  have := z48 σ τ.trail σ.marks (σ.trail.drop σ0.trail.length)
  show Grow σ0 (undoL { σ with trail := τ.trail, marks := σ.marks } _)
  rw [this]; exact h.up.other _ _
theorem z3n {α : Type} {l : List α} {k : Nat} {x y : α} (h : l[k]? = some y) : (l.set k x).set k y = l := by
  rw [List.set_set]; exact z91 h
theorem Back.bind {σ0 σ : SS} {v : Int} {c : Int × Int} (h : Back σ0 σ) (hw : WF noU σ) : Back σ0 (bindS σ v c).1 := by
  rcases hw.bind (v := v) (c := c) |>.2 with e | ⟨n, k, rfl, hn, ek, hk, hc, e⟩
  · rw [e]; exact h
  · rw [e]
    refine h.entry (x := (0, (n : Int))) rfl ?_
    unfold undo1
    rw [if_pos rfl]
    have e2 : (σ.cells.set k (dr σ.cells c)).set (gi σ.vars (n : Int)).toNat (1, (n : Int)) = σ.cells := by
      rw [ek, Int.toNat_natCast]
      exact z3n (by rw [z3y hk, hc])
    show { σ with cells := (σ.cells.set k (dr σ.cells c)).set (gi σ.vars (n : Int)).toNat (1, (n : Int)), trail := _ } = _
    rw [e2]
theorem zf1 {σ0 σ : SS} {n : Nat} (h : Back σ0 σ) : undoS σ n σ0.trail.length σ0.cells.length σ0.vars.length = { σ0 with consts := σ.consts, funs := σ.funs, marks := σ.marks.take (n + 1) } ∨ σ0.flags.length ≠ σ0.vars.length ∨ σ0.own.length ≠ σ0.cells.length := by
  by_cases h1 : σ0.flags.length = σ0.vars.length
  · by_cases h2 : σ0.own.length = σ0.cells.length
    · left
      have hs := z1h σ (σ.trail.drop σ0.trail.length)
      unfold undoS
      have tk : ∀ {α : Type} {l m : List α}, l <+: m → m.take l.length = l := fun hp => by obtain ⟨t, rfl⟩ := hp; simp
      have a1 := tk h.up.cells
      have a2 := tk h.up.own
      have a3 := tk h.up.vars
      have a4 := tk h.up.flags
      have a5 := tk h.tr
      rw [hs.2.1] at a2
      rw [hs.1] at a3
      rw [h2] at a2
      rw [h1] at a4
      simp only [a1, a2, a3, a4, a5, hs.2.2.1, hs.2.2.2.1]
    · exact .inr (.inr h2)
  · exact .inr (.inl h1)
theorem Grow.undo {σ0 σ : SS} (h : Back σ0 σ) : Grow σ0 { σ0 with consts := σ.consts, funs := σ.funs, marks := σ.marks } := by
  have hs := z1h σ (σ.trail.drop σ0.trail.length)
  refine ⟨List.prefix_refl _, List.prefix_refl _, List.prefix_refl _, List.prefix_refl _, ?_, ?_⟩
  · have := h.up.consts; rw [hs.2.2.1] at this; exact this
  · have := h.up.funs; rw [hs.2.2.2.1] at this; exact this
theorem zdp {σ τ : SS} (hT : TOk σ) (g : Grow σ τ) (hc : τ.cells = σ.cells) : ∀ (k : Nat) (c : Int × Int) (n : Nat), mayS σ c = true → toldF τ k c n = toldF σ k c n
  | 0, c, n, _ => by rw [toldF, toldF]
  | k + 1, c, n, hm => by
    obtain ⟨m, d, hd, hsh⟩ := hT.go c hm
    have ed := zby hd
    rw [toldF, toldF, hc, ed]
    cases hsh with
    | var h1 => rw [if_pos h1, if_pos h1]
    | con h1 h2 h3 =>
      obtain ⟨j, ej⟩ := Int.eq_ofNat_of_zero_le h2
      have hj : j < σ.consts.length := by omega
      rw [if_neg (by omega), if_pos h1, if_neg (by omega), if_pos h1, ej, Int.toNat_natCast]
      obtain ⟨t, ht⟩ := g.consts
      rw [← ht, List.getElem?_append_left hj]
    | str f h1 h2 h3 h4 hf h5 h6 h7 =>
      rw [if_neg (by omega), if_neg (by omega), if_neg (by omega), if_neg (by omega), h4, Int.toNat_natCast]
      obtain ⟨t, ht⟩ := g.funs
      have ef : τ.funs[f]? = σ.funs[f]? := by rw [← ht, List.getElem?_append_left hf]
      rw [ef, List.getElem?_eq_getElem hf, Option.getD_some]
      have key : ∀ (L : List Nat) (p : List Tm × Nat), (∀ i ∈ L, (i : Int) < σ.funs[f].2) → L.foldl (stepT (toldF τ k) fun i => ci σ.cells (d.2 + 1 + i)) p = L.foldl (stepT (toldF σ k) fun i => ci σ.cells (d.2 + 1 + i)) p := by
        intro L
        induction L with
        | nil => intro p _; rfl
        | cons i L ih =>
          intro p hL
          have e : stepT (toldF τ k) (fun i => ci σ.cells (d.2 + 1 + i)) p i = stepT (toldF σ k) (fun i => ci σ.cells (d.2 + 1 + i)) p i := by
            unfold stepT
            rw [zdp hT g hc k _ p.2 (h7 i (hL i (by simp))).2]
          rw [List.foldl_cons, List.foldl_cons, e]
          exact ih _ fun j hj => hL j (List.mem_cons_of_mem _ hj)
      rw [key _ _ fun i hi => by have := List.mem_range.1 hi; omega]
theorem zja {σ τ : SS} (hT : TOk σ) (g : Grow σ τ) (lo : σ.own.length = σ.cells.length) (hc : τ.cells = σ.cells) {c : Int × Int} (hm : mayS σ c = true ∨ c = (0, 0)) : termS τ c = termS σ c := by
  rcases hm with hm | rfl
  · have hm' := z5z g lo hm
    unfold termS
    rw [hm, hm', zdp hT g hc _ _ _ hm]
  · have z : ∀ ρ : SS, mayS ρ (0, 0) = false := fun ρ => by unfold mayS; rfl
    unfold termS
    rw [z, z]; rfl
end Go.Proofs.YthkogijbkachdaaDoor.hb
end

-- Y11
section
namespace Go.Proofs.YthkogijbkachdaaDoor.hb
open Go Go.RowKit Go.Hb
variable {ok : Ok}
set_option maxRecDepth 10000
attribute [local irreducible] LX LG EL STG SOP SGO SGD SAL SRD SEF SEG SLK SCK ES
theorem zc1 {H : Heap} (hw : H.wf) : EvF Tryd.prog okT 5 [] H fun v H' => v = .bool true ∧ HX H H' := zij hw
end Go.Proofs.YthkogijbkachdaaDoor.hb
end

-- Sq5
section
namespace Go.Proofs.YthkogijbkachdaaDoor.hb
open Go Go.RowKit Go.Hb
variable {ok : Ok}
set_option maxRecDepth 10000
attribute [local irreducible] LX LG EL STG SOP SGO SGD SAL SRD SEF SEG SLK SCK ES
def noS : SS := ⟨[], [], [], [], [], [], [], []⟩
def mkN : Nat → SS
  | 0 => noS
  | n + 1 => makeS (mkN n)
theorem zn0 : WF noU noS := by
  refine ⟨rfl, rfl, fun n hn => by simp [noS] at hn, fun a ha => by simp [noS] at ha, fun c hm => ?_, fun t ht => by simp [noS] at ht, fun k hk => by simp [noS] at hk⟩
  rw [z2b] at hm
  have z1 : noS.consts.length = 0 := rfl
  have z2 : noS.cells.length = 0 := rfl
  rw [z1, z2] at hm
  omega
theorem z5p : ∀ n, WF noU (mkN n)
  | 0 => zn0
  | n + 1 => zhq (z5p n)
theorem z49 : ∀ n, (mkN n).vars.length = n ∧ (mkN n).cells.length = n ∧ (mkN n).own.length = n ∧ (mkN n).flags.length = n ∧ (mkN n).consts = [] ∧ (mkN n).funs = [] ∧ (mkN n).trail = [] ∧ (mkN n).marks = []
  | 0 => ⟨rfl, rfl, rfl, rfl, rfl, rfl, rfl, rfl⟩
  | n + 1 => by
    have h := z49 n
    exact ⟨by simp [mkN, makeS, h.1], by simp [mkN, makeS, h.2.1], by simp [mkN, makeS, h.2.2.1], by simp [mkN, makeS, h.2.2.2.1], h.2.2.2.2.1, h.2.2.2.2.2.1, h.2.2.2.2.2.2.1, h.2.2.2.2.2.2.2⟩
set_option maxHeartbeats 2000000 in
theorem zn1 {H : Heap} (hw : H.wf) : EvF Tryd.prog okT 6 [] H fun v H' => ∃ s, v = .pointer (some ⟨s, 0, none⟩) ∧ St H' H.next s noS ∧ HX H H' := by
  refine EvF.enter rfl Tryd.func6 (by decide) rfl ?_
  obtain ⟨H1, e1, hx1, g1, n1, w1⟩ := new1 hw (.map [] 0)
  obtain ⟨H2, e2, hx2, g2, n2, w2⟩ := new1 w1 (.map [] 0)
  obtain ⟨H3, e3, hx3, g3, n3, w3⟩ := new1 w2 (.row [.slice none 0 0, .slice none 0 0, .slice none 0 0, .slice none 0 0, .slice none 0 0, .slice none 0 0, .map (some H.next), .map (some H1.next), .slice none 0 0, .slice none 0 0] 64)
  repeat' (first | refine EvC.seq ?_ | refine EvC.scope ?_ | refine EvC.block ?_ | (refine EvC.skip ?_) | (refine EvC.exit ?_) | (refine EvC.ret ?_; try simp only [z01, z00]) | (refine EvC.reg ?_; simp (config := { maxSteps := 2000000 }) (disch := first | omega | rfl) only [sB, initTm, dBox, Nat.reduceEqDiff, Nat.reduceAdd, Value.cells, one, reduceCtorEq, Nat.reduceLeDiff, layC, bd64, z6x, e1, e2, e3]))
  refine z06 rfl (by simp only [sG, reduceCtorEq] <;> rfl) ⟨H2.next, rfl, ⟨_, g3, by omega, rfl, fun i f v hf hv => ?_, fun i j v u n h1 h2 h3 h4 => ?_, fun i v hv => ?_, rfl⟩, hx1.trans (hx2.trans hx3)⟩
  · have m6 : FR H3 H.next (.mp []) (.map (some H.next)) := ⟨H.next, [], 0, rfl, Nat.le_refl _, by omega, hx3.get w2 (hx2.get w1 g1), rfl⟩
    have m7 : FR H3 H.next (.mp []) (.map (some H1.next)) := ⟨H1.next, [], 0, rfl, by omega, by omega, hx3.get w2 g2, rfl⟩
    match i, hf, hv with
    | 0, hf, hv => cases hf; cases hv; exact .inl ⟨rfl, rfl⟩
    | 1, hf, hv => cases hf; cases hv; exact .inl ⟨rfl, rfl⟩
    | 2, hf, hv => cases hf; cases hv; exact .inl ⟨rfl, rfl⟩
    | 3, hf, hv => cases hf; cases hv; exact .inl ⟨rfl, rfl⟩
    | 4, hf, hv => cases hf; cases hv; exact .inl ⟨rfl, rfl⟩
    | 5, hf, hv => cases hf; cases hv; exact .inl ⟨rfl, rfl⟩
    | 6, hf, hv => cases hf; cases hv; exact m6
    | 7, hf, hv => cases hf; cases hv; exact m7
    | 8, hf, hv => cases hf; cases hv; exact .inl ⟨rfl, rfl⟩
    | 9, hf, hv => cases hf; cases hv; exact .inl ⟨rfl, rfl⟩
    | i + 10, hf, hv => simp at hv
  · have key : ∀ (i : Nat) v n, [Value.slice none 0 0, .slice none 0 0, .slice none 0 0, .slice none 0 0, .slice none 0 0, .slice none 0 0, .map (some H.next), .map (some H1.next), .slice none 0 0, .slice none 0 0][i]? = some v → blkOf v = some n → (i = 6 ∧ n = H.next) ∨ (i = 7 ∧ n = H1.next) := by
      intro i v n hv hb
      match i, hv with
      | 0, hv => cases hv; cases hb
      | 1, hv => cases hv; cases hb
      | 2, hv => cases hv; cases hb
      | 3, hv => cases hv; cases hb
      | 4, hv => cases hv; cases hb
      | 5, hv => cases hv; cases hb
      | 6, hv => cases hv; cases hb; exact .inl ⟨rfl, rfl⟩
      | 7, hv => cases hv; cases hb; exact .inr ⟨rfl, rfl⟩
      | 8, hv => cases hv; cases hb
      | 9, hv => cases hv; cases hb
      | i + 10, hv => simp at hv
    have q1 := key i v n h1 h3
    have q2 := key j u n h2 h4
    omega
  · intro hb
    match i, hv with
    | 0, hv => cases hv; cases hb
    | 1, hv => cases hv; cases hb
    | 2, hv => cases hv; cases hb
    | 3, hv => cases hv; cases hb
    | 4, hv => cases hv; cases hb
    | 5, hv => cases hv; cases hb
    | 6, hv => cases hv; have : H.next = H2.next := Option.some.inj hb; omega
    | 7, hv => cases hv; have : H1.next = H2.next := Option.some.inj hb; omega
    | 8, hv => cases hv; cases hb
    | 9, hv => cases hv; cases hb
    | i + 10, hv => simp at hv
theorem z7g {σ : SS} {t : Tm} (h : WF noU σ) (hb : BdA t) : WF noU (layV σ t).1 ∧ Grow σ (layV σ t).1 ∧ ((layV σ t).2.2 = 0 → mayS (layV σ t).1 (layV σ t).2.1 = true) ∧ (layV σ t).1.trail = σ.trail ∧ (layV σ t).1.marks = σ.marks ∧ (layV σ t).1.vars = σ.vars ∧
    (layV σ t).1.cells.length ≤ σ.cells.length + 2 * nd t ∧ (layV σ t).1.consts.length ≤ σ.consts.length + nd t ∧ (layV σ t).1.funs.length ≤ σ.funs.length + nd t := by
  unfold layV
  split
  · rename_i h0
    exact ⟨h, Grow.refl σ, fun q => absurd q h0, rfl, rfl, rfl, by simp only; omega, by simp only; omega, by simp only; omega⟩
  · rename_i h0
    have h0' : checkS t = 0 := Classical.not_not.1 h0
    split
    · rename_i hall
      obtain ⟨a, b, c⟩ := zdo _ (Nat.lt_succ_self _) h (fun a q => q.elim) (z3t.1 h0').2 hb hall
      have g := z7a _ t (Nat.lt_succ_self _) σ
      exact ⟨a, c, fun _ => b, g.trail, g.marks, g.vars, by have := g.cells; simp only; omega, g.consts, g.funs⟩
    · exact ⟨h, Grow.refl σ, fun q => by simp at q, rfl, rfl, rfl, by simp only; omega, by simp only; omega, by simp only; omega⟩
end Go.Proofs.YthkogijbkachdaaDoor.hb
end

-- Sq6
section
namespace Go.Proofs.YthkogijbkachdaaDoor.hb
open Go Go.RowKit Go.Hb
variable {ok : Ok}
set_option maxRecDepth 10000
attribute [local irreducible] LX LG EL STG SOP SGO SGD SAL SRD SEF SEG SLK SCK ES
abbrev TD : Type := List Tm × Option Addr × Nat
abbrev tdRow (d : TD) : List Value := [.slice d.2.1 d.1.length d.2.2]
structure Cl (H : Heap) (s B : Nat) (C : List (Int × Int)) (vC : Value) (D : List TD) (vD : Value) (S : Nat → Prop) : Prop where
  fc : FR H B (.sl 37 2 (C.map two)) vC
  fd : FR H B (.sl 22 1 (D.map tdRow)) vD
  fl : ∀ d ∈ D, FL H 32 S d.1 d.2.1 d.2.2
  sb : ∀ n, S n → B ≤ n ∧ n < H.next ∧ ¬ Mut H s n ∧ blkOf vC ≠ some n ∧ blkOf vD ≠ some n
  nc : ∀ n, blkOf vC = some n → ¬ Mut H s n ∧ blkOf vD ≠ some n
  nd : ∀ n, blkOf vD = some n → ¬ Mut H s n
theorem Cl.sx {H H' : Heap} {s B : Nat} {C : List (Int × Int)} {vC vD : Value} {D : List TD} {S : Nat → Prop} (h : Cl H s B C vC D vD S) (hw : H.wf) (hx : SX s H H') : Cl H' s B C vC D vD S := by
  refine ⟨h.fc.heap (fun n hn => hx.get (h.fc.lo hn).2 (h.nc n hn).1) hx.next, h.fd.heap (fun n hn => hx.get (h.fd.lo hn).2 (h.nd n hn)) hx.next, fun d hd => (h.fl d hd).heap (fun n hn hl => hx.get hl (h.sb n hn).2.2.1) hw, fun n hn => ?_, fun n hn => ⟨hx.nm (h.fc.lo hn).2 (h.nc n hn).1, (h.nc n hn).2⟩, fun n hn => hx.nm (h.fd.lo hn).2 (h.nd n hn)⟩
  obtain ⟨a, b, c, d, e⟩ := h.sb n hn
  exact ⟨a, Nat.lt_of_lt_of_le b hx.next, hx.nm b c, d, e⟩
theorem Cl.hx {H H' : Heap} {s B : Nat} {C : List (Int × Int)} {vC vD : Value} {D : List TD} {S : Nat → Prop} (h : Cl H s B C vC D vD S) (hw : H.wf) (hs : s < H.next) (hx : HX H H') : Cl H' s B C vC D vD S := h.sx hw (hx.sx hs)
theorem Cl.cell {H : Heap} {s B : Nat} {C : List (Int × Int)} {vC vD : Value} {D : List TD} {S : Nat → Prop} (h : Cl H s B C vC D vD S) : ∃ a c, vC = .slice a C.length c ∧ C.length ≤ c ∧ c ≤ maxLen ∧ ∀ k, (hk : k < C.length) → ∃ b, a = some ⟨b, 0, none⟩ ∧ H.load ⟨b, k * 2, none⟩ 2 = some (two C[k]) := by
  rcases h.fc with ⟨q, rfl⟩ | ⟨b, c, o, rfl⟩
  · have : C = [] := by simpa using q
    subst this
    exact ⟨none, 0, rfl, Nat.le_refl _, Nat.zero_le _, fun k hk => by simp at hk⟩
  · have hl := o.len
    simp only [List.length_map] at hl ⊢
    exact ⟨_, c, rfl, hl, o.cap, fun k hk => ⟨b, rfl, o.load (by rw [List.getElem?_map, List.getElem?_eq_getElem hk]; rfl)⟩⟩
theorem Cl.told {H : Heap} {s B : Nat} {C : List (Int × Int)} {vC vD : Value} {D : List TD} {S : Nat → Prop} (h : Cl H s B C vC D vD S) : ∃ a c, vD = .slice a D.length c ∧ D.length ≤ c ∧ c ≤ maxLen ∧ ∀ k, (hk : k < D.length) → ∃ b, a = some ⟨b, 0, none⟩ ∧ H.load ⟨b, k, none⟩ 1 = some (tdRow D[k]) := by
  rcases h.fd with ⟨q, rfl⟩ | ⟨b, c, o, rfl⟩
  · have : D = [] := by simpa using q
    subst this
    exact ⟨none, 0, rfl, Nat.le_refl _, Nat.zero_le _, fun k hk => by simp at hk⟩
  · have hl := o.len
    simp only [List.length_map] at hl ⊢
    refine ⟨_, c, rfl, hl, o.cap, fun k hk => ⟨b, rfl, ?_⟩⟩
    have := o.load (i := k) (x := tdRow D[k]) (by rw [List.getElem?_map, List.getElem?_eq_getElem hk]; rfl)
    rw [Nat.mul_one] at this; exact this
end Go.Proofs.YthkogijbkachdaaDoor.hb
end

-- Sq7
section
namespace Go.Proofs.YthkogijbkachdaaDoor.hb
open Go Go.RowKit Go.Hb
def lens (ρ : SS) : Int × Int × Int := ((ρ.trail.length : Int), (ρ.cells.length : Int), (ρ.vars.length : Int))
def okC (σ : SS) (c : Int × Int) : Prop := mayS σ c = true ∨ c = (0, 0)
structure PI (σ : SS) (C : List (Int × Int)) (snaps : List SS) (D : List TD) (nC nS w nt : Nat) : Prop where
  wf : WF noU σ
  tr : ∀ x ∈ σ.trail, TrOk σ x
  vars : σ.vars.length = 6
  marks : σ.marks = snaps.map lens
  cl : C.length = nC
  sn : snaps.length = nS
  dl : D.length = nS
  back : ∀ ρ ∈ snaps, Back ρ σ
  old : ∀ (j : Nat) ρ, snaps[j]? = some ρ → WF noU ρ ∧ ρ.cells.length ≤ most ∧ ρ.vars.length = 6 ∧ ∀ (k : Nat) c, k < j → C[k]? = some c → okC ρ c
  told : ∀ (j : Nat) ρ d, snaps[j]? = some ρ → D[j]? = some d → j ≤ C.length ∧ d.1 = (C.take j).map fun c => (termS ρ c).1
  now : ∀ c ∈ C, okC σ c
  fc : σ.cells.length ≤ 6 + 2 * w
  fk : σ.consts.length ≤ w
  ff : σ.funs.length ≤ w
  ft : σ.trail.length ≤ nt
theorem PI.mark {σ : SS} {C : List (Int × Int)} {snaps : List SS} {D : List TD} {n w nt : Nat} (h : PI σ C snaps D n n w nt) {d : TD} (hd : d.1 = C.map fun c => (termS σ c).1) (hm : σ.cells.length ≤ most) : PI { σ with marks := σ.marks ++ [lens σ] } C (snaps ++ [σ]) (D ++ [d]) n (n + 1) w nt := by
  have hsn := h.sn
  have hdl := h.dl
  refine ⟨h.wf.other rfl, h.tr, h.vars, by rw [List.map_append, ← h.marks]; rfl, h.cl, by simp [hsn], by simp [hdl], fun ρ hρ => ?_, fun j ρ hj => ?_, fun j ρ e hj he => ?_, h.now, h.fc, h.fk, h.ff, h.ft⟩
  · rcases List.mem_append.1 hρ with q | q
    · exact (h.back ρ q).marks _
    · rw [List.mem_singleton] at q; rw [q]; exact (Back.refl σ).marks _
  · rw [List.getElem?_append] at hj
    split at hj
    · exact h.old j ρ hj
    · rename_i q
      have hjl : j - snaps.length = 0 := by
        have := (List.getElem?_eq_some_iff.1 hj).1; simp at this; omega
      rw [hjl] at hj
      cases hj
      exact ⟨h.wf, hm, h.vars, fun k c hk hc => h.now c (List.mem_of_getElem? hc)⟩
  · rw [List.getElem?_append] at hj he
    split at hj
    · rename_i q
      rw [if_pos (by omega)] at he
      exact h.told j ρ e hj he
    · rename_i q
      rw [if_neg (by omega)] at he
      have hjl : j - snaps.length = 0 := by
        have := (List.getElem?_eq_some_iff.1 hj).1; simp at this; omega
      have hjn : j = n := by omega
      rw [hjl] at hj
      rw [hdl, ← hsn, hjl] at he
      cases hj
      cases he
      refine ⟨by rw [h.cl]; omega, ?_⟩
      rw [hd, List.take_of_length_le (by rw [h.cl]; omega)]
theorem PI.lay {σ : SS} {C : List (Int × Int)} {snaps : List SS} {D : List TD} {nC nS w nt : Nat} (h : PI σ C snaps D nC nS w nt) {t : Tm} (hb : BdA t) : PI (layV σ t).1 C snaps D nC nS (w + nd t) nt := by
  obtain ⟨a1, a2, a3, a4, a5, a6, a7, a8, a9⟩ := z7g h.wf hb
  refine ⟨a1, fun x hx => ?_, by rw [a6]; exact h.vars, a5.trans h.marks, h.cl, h.sn, h.dl, fun ρ hρ => (h.back ρ hρ).grow a2 a4 h.wf.lf h.tr, h.old, h.told, fun c hc => ?_, by have := h.fc; omega, by have := h.fk; omega, by have := h.ff; omega, by rw [a4]; exact h.ft⟩
  · rw [a4] at hx; exact (h.tr x hx).grow a2
  · rcases h.now c hc with q | q
    · exact .inl (z5z a2 h.wf.lo q)
    · exact .inr q
theorem PI.cell {σ : SS} {C : List (Int × Int)} {snaps : List SS} {D : List TD} {n w nt : Nat} (h : PI σ C snaps D n (n + 1) w nt) {c : Int × Int} (hc : okC σ c) : PI σ (C ++ [c]) snaps D (n + 1) (n + 1) w nt := by
  have hcl := h.cl
  have hsn := h.sn
  refine ⟨h.wf, h.tr, h.vars, h.marks, by simp [hcl], h.sn, h.dl, h.back, fun j ρ hj => ?_, fun j ρ d hj hd => ?_, fun e he => ?_, h.fc, h.fk, h.ff, h.ft⟩
  · obtain ⟨o1, o2, o3, o4⟩ := h.old j ρ hj
    refine ⟨o1, o2, o3, fun k e hk he => ?_⟩
    have hjl := (List.getElem?_eq_some_iff.1 hj).1
    rw [List.getElem?_append_left (by omega)] at he
    exact o4 k e hk he
  · obtain ⟨o1, o2⟩ := h.told j ρ d hj hd
    exact ⟨by simp; omega, by rw [List.take_append_of_le_length o1]; exact o2⟩
  · rcases List.mem_append.1 he with q | q
    · exact h.now e q
    · rw [List.mem_singleton] at q; rw [q]; exact hc
theorem PI.bind {σ : SS} {C : List (Int × Int)} {snaps : List SS} {D : List TD} {nC nS w nt : Nat} (h : PI σ C snaps D nC nS w nt) (v : Int) (c : Int × Int) : PI (bindS σ v c).1 C snaps D nC nS w (nt + 1) := by
  obtain ⟨hw, hs⟩ := h.wf.bind (v := v) (c := c)
  have hbk : ∀ ρ ∈ snaps, Back ρ (bindS σ v c).1 := fun ρ hρ => (h.back ρ hρ).bind h.wf
  rcases hs with e | ⟨n, k, rfl, hn, ek, hk, hcc, e⟩
  · rw [e]
    exact ⟨h.wf, h.tr, h.vars, h.marks, h.cl, h.sn, h.dl, h.back, h.old, h.told, h.now, h.fc, h.fk, h.ff, by have := h.ft; omega⟩
  · rw [e] at hw hbk ⊢
    refine ⟨hw, fun x hx => ?_, h.vars, h.marks, h.cl, h.sn, h.dl, hbk, h.old, h.told, fun d hd => ?_, by simp only [List.length_set]; exact h.fc, h.fk, h.ff, by have := h.ft; simp; omega⟩
    · have hx' : x ∈ σ.trail ++ [(0, (n : Int))] := hx
      rcases List.mem_append.1 hx' with q | q
      · exact (h.tr x q).same rfl (by simp)
      · rw [List.mem_singleton] at q; subst q
        exact ⟨.inl rfl, n, k, rfl, hn, ek, by simp; exact hk⟩
    · rcases h.now d hd with q | q
      · left
        unfold mayS at q ⊢
        simp only [List.length_set]; exact q
      · exact .inr q
theorem PI.few {σ : SS} {C : List (Int × Int)} {snaps : List SS} {D : List TD} {nC nS w nt : Nat} (h : PI σ C snaps D nC nS w nt) {t : Tm} (hw : w + nd t ≤ 149796) : σ.cells.length + 2 * nd t ≤ most ∧ σ.consts.length + nd t ≤ most ∧ σ.funs.length + nd t ≤ most := by
  have := h.fc; have := h.fk; have := h.ff
  unfold most; omega
theorem PI.tok {σ : SS} {C : List (Int × Int)} {snaps : List SS} {D : List TD} {nC nS w nt : Nat} (h : PI σ C snaps D nC nS w nt) (hw : w ≤ 149796) : TOk σ ∧ σ.cells.length ≤ most := by
  have := h.fc; have := h.vars
  have h1 : σ.cells.length ≤ most := by unfold most; omega
  exact ⟨h.wf.tok h1 (by unfold most; omega), h1⟩
theorem PI.varb {σ : SS} {C : List (Int × Int)} {snaps : List SS} {D : List TD} {nC nS w nt : Nat} (h : PI σ C snaps D nC nS w nt) : VarB σ := fun n hn => by
  obtain ⟨k, h1, h2, -⟩ := h.wf.var n hn
  rw [h1]; omega
theorem PI.start : PI (mkN 6) [] [] [] 0 0 0 0 := by
  have h := z49 6
  refine ⟨z5p 6, fun x hx => (by rw [h.2.2.2.2.2.2.1] at hx; cases hx), h.1, h.2.2.2.2.2.2.2, rfl, rfl, rfl, fun ρ hρ => (by cases hρ), fun j ρ hj => (by simp at hj), fun j ρ d hj => (by simp at hj), fun c hc => (by cases hc), by rw [h.2.1]; omega, by rw [h.2.2.2.2.1]; exact Nat.le_refl _, by rw [h.2.2.2.2.2.1]; exact Nat.le_refl _, by rw [h.2.2.2.2.2.2.1]; exact Nat.le_refl _⟩
end Go.Proofs.YthkogijbkachdaaDoor.hb
end

-- Sq9
section
namespace Go.Proofs.YthkogijbkachdaaDoor.hb
open Go Go.RowKit Go.Hb
inductive RD (σ : SS) (lo : Nat) : Int × Int → Tm → Prop
  | var (v a : Nat) : gi σ.vars v = (a : Int) → v < σ.vars.length → a < σ.cells.length → ci σ.cells a = (1, (v : Int)) → 0 ≤ gi σ.own a → RD σ lo (2, (a : Int)) (varTm v)
  | con (j : Nat) (t : Tm) : σ.consts[j]? = some t → t.args = [] → RD σ lo (3, (j : Int)) t
  | str (p f : Nat) (nm : ByteArray) (l : List Tm) : lo ≤ p → p < σ.cells.length → ci σ.cells p = (5, (f : Int)) → σ.funs[f]? = some (nm, (l.length : Int)) → (∀ i : Nat, i < l.length → p + 1 + i < σ.cells.length) → (∀ (i : Nat) (u : Tm), l[i]? = some u → RD σ lo (ci σ.cells ((p + 1 + i : Nat) : Int)) u) → RD σ lo (4, (p : Int)) (.mk 5 nm e0 0 0 l)
theorem RD.low {σ : SS} {lo lo' : Nat} (hl : lo' ≤ lo) {c : Int × Int} {t : Tm} (h : RD σ lo c t) : RD σ lo' c t := by
  induction h with
  | var v a h1 h2 h3 h4 h5 => exact .var v a h1 h2 h3 h4 h5
  | con j t h h' => exact .con j t h h'
  | str p f nm l h1 h2 h3 h4 h5 _ ih => exact .str p f nm l (by omega) h2 h3 h4 h5 ih
theorem zc2 {α : Type} {l m : List α} (h : l <+: m) {j : Nat} {x : α} (hj : l[j]? = some x) : m[j]? = some x := by
  obtain ⟨t, rfl⟩ := h
  rw [List.getElem?_append_left (List.getElem?_eq_some_iff.1 hj).1]; exact hj
theorem RD.grow {σ τ : SS} {lo : Nat} (g : Grow σ τ) (ho : σ.own.length = σ.cells.length) {c : Int × Int} {t : Tm} (h : RD σ lo c t) : RD τ lo c t := by
  have hcl := g.cells.length_le
  have hvl := g.vars.length_le
  induction h with
  | var v a h1 h2 h3 h4 h5 => exact .var v a (by rw [z1x g.vars h2]; exact h1) (by omega) (by omega) (by rw [z50 g.cells h3]; exact h4) (by rw [z1x g.own (by omega)]; exact h5)
  | con j t h h' => exact .con j t (zc2 g.consts h) h'
  | str p f nm l h1 h2 h3 h4 h5 _ ih =>
    refine .str p f nm l h1 (by omega) (by rw [z50 g.cells h2]; exact h3) (zc2 g.funs h4) (fun i hi => by have := h5 i hi; omega) fun i u hu => ?_
    rw [z50 g.cells (h5 i (List.getElem?_eq_some_iff.1 hu).1)]
    exact ih i u hu
theorem RD.set {σ : SS} {lo k : Nat} {x : Int × Int} (hk : k < lo) (hkl : k < σ.cells.length) (ho : gi σ.own k < 0) {c : Int × Int} {t : Tm} (h : RD σ lo c t) : RD { σ with cells := σ.cells.set k x } lo c t := by
  have hci : ∀ n : Nat, n ≠ k → ci (σ.cells.set k x) n = ci σ.cells n := fun n hn => by rw [z51 hkl, if_neg hn]
  induction h with
  | var v a h1 h2 h3 h4 h5 => exact .var v a h1 h2 (by simp only [List.length_set]; exact h3) ((hci a (fun e => by subst e; omega)).trans h4) h5
  | con j t h h' => exact .con j t h h'
  | str p f nm l h1 h2 h3 h4 h5 _ ih =>
    refine .str p f nm l h1 (by simp only [List.length_set]; exact h2) ((hci p (by omega)).trans h3) h4 (fun i hi => by simp only [List.length_set]; exact h5 i hi) fun i u hu => ?_
    show RD _ lo (ci (σ.cells.set k x) ((p + 1 + i : Nat) : Int)) u
    rw [hci (p + 1 + i) (by omega)]
    exact ih i u hu
theorem zdq (a b : List Tm) : nd.ndL (a ++ b) = nd.ndL a + nd.ndL b := by
  induction a with
  | nil => rw [nd.ndL]; simp
  | cons t a ih => rw [List.cons_append, nd.ndL, nd.ndL, ih]; omega
theorem z5q (l : List Tm) (i : Nat) : nd.ndL (l.take i) ≤ nd.ndL l := by
  have := zdq (l.take i) (l.drop i)
  rw [List.take_append_drop] at this; omega
theorem z2i {l : List Tm} {i : Nat} (h : i < l.length) : nd.ndL (l.take (i + 1)) = nd.ndL (l.take i) + nd l[i] := by
  rw [← List.take_append_getElem h, zdq, nd.ndL, nd.ndL, Nat.add_zero]
theorem zhv {σ : SS} {lo : Nat} : ∀ (k : Nat) {c : Int × Int} {t : Tm} {n : Nat}, RD σ lo c t → n + nd t ≤ 4000 → 4001 - n ≤ k → toldF σ k c n = (t, n + nd t)
  | 0, c, t, n, _, h, hk => by omega
  | k + 1, c, t, n, h, hn, hk => by
    cases h with
    | var v a h1 h2 h3 h4 h5 =>
      have hd : Der σ.cells 0 (2, (a : Int)) (2, (a : Int)) := .var rfl (by show (0 : Int) ≤ (a : Int); omega) (by show (a : Int) < _; omega) (by show (ci σ.cells (a : Int)).1 = 1; rw [h4])
      have en : nd (varTm (v : Int)) = 1 := by rw [z2a]; simp [varTm, Tm.args, nd.ndL]
      rw [toldF, zby hd, if_pos rfl, h4, en]
    | con j t h h' =>
      have hd : Der σ.cells 0 (3, (j : Int)) (3, (j : Int)) := .stop (by show (3 : Int) ≠ 2; omega)
      have en : nd t = 1 := by rw [z2a, h', nd.ndL]
      rw [toldF, zby hd, if_neg (by show ¬ (3 : Int) = 2; omega), if_pos rfl, en]
      show ((σ.consts[((j : Int)).toNat]?).getD zeroTm, n + 1) = _
      rw [Int.toNat_natCast, h]; rfl
    | str p f nm l h1 h2 h3 h4 h5 h6 =>
      have hd : Der σ.cells 0 (4, (p : Int)) (4, (p : Int)) := .stop (by show (4 : Int) ≠ 2; omega)
      have en : nd (.mk 5 nm e0 0 0 l) = 1 + nd.ndL l := by rw [z2a]; rfl
      have key : ∀ (i : Nat), i ≤ l.length → (List.range i).foldl (stepT (toldF σ k) fun i => ci σ.cells ((p : Int) + 1 + i)) ([], n + 1) = (l.take i, n + 1 + nd.ndL (l.take i)) := by
        intro i
        induction i with
        | zero => intro _; rw [List.take_zero, nd.ndL]; rfl
        | succ i ih =>
          intro hi
          have hil : i < l.length := by omega
          have hle : nd.ndL (l.take i) + nd l[i] ≤ nd.ndL l := by
            have h1 := z5q l (i + 1)
            rw [z2i hil] at h1; exact h1
          have hpos := z2a l[i]
          have e : ci σ.cells ((p : Int) + 1 + (i : Int)) = ci σ.cells ((p + 1 + i : Nat) : Int) := by congr 1
          have hr := zhv k (n := n + 1 + nd.ndL (l.take i)) (h6 i l[i] (List.getElem?_eq_getElem hil)) (by omega) (by omega)
          rw [zal (ih (by omega)) (by omega), e, hr, z2i hil, List.take_append_getElem hil]
          simp only [Prod.mk.injEq]
          exact ⟨trivial, by omega⟩
      have ka := key l.length (Nat.le_refl _)
      rw [List.take_length] at ka
      rw [toldF, zby hd, if_neg (by show ¬ (4 : Int) = 2; omega), if_neg (by show ¬ (4 : Int) = 3; omega), h3]
      show (Tm.mk 5 ((σ.funs[((f : Int)).toNat]?).getD (e0, 0)).1 e0 0 0 _, _) = _
      rw [Int.toNat_natCast, h4, Option.getD_some, Int.toNat_natCast, ka, en]
      simp only [Prod.mk.injEq]
      exact ⟨trivial, by omega⟩
theorem zlx {a b : ByteArray} (h : (a == b) = true) : a = b := by
  cases a with
  | mk x => cases b with
    | mk y =>
      have : (x == y) = true := h
      rw [eq_of_beq this]
theorem zdr (t : Tm) : t = .mk t.kind t.name t.num t.bits t.var t.args := by cases t; rfl
def AtF (t : Tm) : Prop := Fine t ∧ t.kind ≠ 1 ∧ t.kind ≠ 5
theorem AtF.args {t : Tm} (h : AtF t) : t.args = [] ∧ t.var = 0 := by
  have hb := z1v (z3j h.1.node).2.2.1
  exact ⟨hb.2.2.2.2 h.2.2, hb.2.2.2.1 h.2.1⟩
theorem zn2 {x a : Tm} (hx : AtF x) (ha : AtF a) (h : eqCst x a = true) : x = a := by
  unfold eqCst at h
  rw [Bool.and_eq_true, Bool.and_eq_true, Bool.and_eq_true] at h
  obtain ⟨h1, h2, h3, h4⟩ := h
  rw [zdr x, zdr a, eq_of_beq h1, zlx h2, zlx h3, eq_of_beq h4, hx.args.1, hx.args.2, ha.args.1, ha.args.2]
theorem zf2 {σ : SS} {t : Tm} (hc : ∀ u ∈ σ.consts, AtF u) (ht : AtF t) : (atomicS σ t).1.consts[(atomicS σ t).2]? = some t ∧ ∀ u ∈ (atomicS σ t).1.consts, AtF u := by
  unfold atomicS
  split
  · rename_i j hj
    obtain ⟨h1, h2, -⟩ := List.findIdx?_eq_some_iff_getElem.1 hj
    refine ⟨?_, hc⟩
    rw [List.getElem?_eq_getElem h1, zn2 ht (hc _ (List.getElem_mem h1)) h2]
  · refine ⟨by simp, fun u hu => ?_⟩
    rcases List.mem_append.1 hu with q | q
    · exact hc u q
    · rw [List.mem_singleton] at q; rw [q]; exact ht
theorem zc3 (σ : SS) (k : ByteArray × Int) : (functorS σ k).1.funs[(functorS σ k).2]? = some k := by
  unfold functorS
  split
  · rename_i j hj
    obtain ⟨h1, h2, -⟩ := List.findIdx?_eq_some_iff_getElem.1 hj
    rw [List.getElem?_eq_getElem h1]
    unfold eqFun at h2
    rw [Bool.and_eq_true] at h2
    exact congrArg some (Prod.ext (zlx h2.1).symm (eq_of_beq h2.2).symm)
  · simp
def Unb (σ : SS) : Prop := ∀ v k : Nat, v < σ.vars.length → gi σ.vars v = (k : Int) → k < σ.cells.length → ci σ.cells k = (1, (v : Int))
theorem Unb.grow {σ τ : SS} {U : Nat → Prop} (h : Unb σ) (hw : WF U σ) (g : Grow σ τ) (hv : τ.vars = σ.vars) : Unb τ := fun v k h1 h2 h3 => by
  rw [hv] at h1 h2
  obtain ⟨k', e1, e2, -⟩ := hw.var v h1
  have : k = k' := by omega
  subst this
  rw [z50 g.cells e2]; exact h v k h1 h2 e2
theorem zkm : ∀ (m : Nat) {t : Tm} {U : Nat → Prop} {σ : SS}, SizeOf.sizeOf t < m → WF U σ → (∀ a, U a → a < σ.cells.length) → Fine t → BdA t → (∀ v ∈ occ t, okV σ v) → Unb σ → (∀ u ∈ σ.consts, AtF u) →
    RD (layS σ t).1 σ.cells.length (layS σ t).2 t ∧ ∀ u ∈ (layS σ t).1.consts, AtF u
  | 0, _, _, _, h, _, _, _, _, _, _, _ => by omega
  | m + 1, t, U, σ, hsz, h, hU, hf, hb, hocc, hu, hc => by
    have hbl := z1v (z3j hf.node).2.2.1
    by_cases k1 : t.kind = 1
    · rw [z5y k1]
      have hv := hocc t.var (by rw [z5m, if_pos k1]; simp)
      obtain ⟨n, en⟩ := Int.eq_ofNat_of_zero_le hv.1
      have hn : n < σ.vars.length := by have := hv.2.1; omega
      obtain ⟨k, h1, h2, h3⟩ := h.var n hn
      have et : t = varTm (n : Int) := by
        conv => lhs; rw [zdr t]
        rw [k1, hbl.1 (by omega) (by omega), hbl.2.1 (by omega), hbl.2.2.1 (by omega), hbl.2.2.2.2 (by omega), en]; rfl
      refine ⟨?_, hc⟩
      show RD σ _ (2, gi σ.vars t.var) t
      rw [en, h1]
      conv => arg 4; rw [et]
      exact .var n k h1 hn h2 (hu n k hn h1 h2) (by rw [h3]; omega)
    · by_cases k5 : t.kind = 5
      · have hW := zdo (m + 1) hsz h hU hf hb hocc
        rw [z4w k5] at hW ⊢
        have hn : t.args.length ≤ 64 := z5x hf
        have hH := zht (nm := t.name) (n := t.args.length) h hn hb.bd.name
        have hg := zao σ (t.name, (t.args.length : Int)) t.args.length
        have hgr := z7f σ (t.name, (t.args.length : Int)) t.args.length
        have hlo := h.lo
        have e3 : ∀ i, i < t.args.length → gi (layH σ (t.name, (t.args.length : Int)) t.args.length).own ((σ.cells.length + 1 + i : Nat) : Int) = -2 := fun i hi => by rw [← hlo]; exact zhs hi
        have e2 : ci (layH σ (t.name, (t.args.length : Int)) t.args.length).cells (σ.cells.length : Nat) = (5, ((functorS σ (t.name, (t.args.length : Int))).2 : Int)) := by show ci (σ.cells ++ [_] ++ List.replicate _ (0, 0)) _ = _; rw [List.append_assoc]; exact zdm
        have hcH : ∀ u ∈ (layH σ (t.name, (t.args.length : Int)) t.args.length).consts, AtF u := by rw [hg.2.2.2.2.2.2.1]; exact hc
        have key : ∀ i, i ≤ t.args.length → WF (fun a => U a ∨ (σ.cells.length + 1 + i ≤ a ∧ a < σ.cells.length + 1 + t.args.length)) (layA (layH σ (t.name, (t.args.length : Int)) t.args.length) σ.cells.length 0 (t.args.take i)) ∧
            Grow σ (layA (layH σ (t.name, (t.args.length : Int)) t.args.length) σ.cells.length 0 (t.args.take i)) ∧ (layH σ (t.name, (t.args.length : Int)) t.args.length).own <+: (layA (layH σ (t.name, (t.args.length : Int)) t.args.length) σ.cells.length 0 (t.args.take i)).own ∧
            (layH σ (t.name, (t.args.length : Int)) t.args.length).funs <+: (layA (layH σ (t.name, (t.args.length : Int)) t.args.length) σ.cells.length 0 (t.args.take i)).funs ∧
            σ.cells.length + 1 + t.args.length ≤ (layA (layH σ (t.name, (t.args.length : Int)) t.args.length) σ.cells.length 0 (t.args.take i)).cells.length ∧
            ci (layA (layH σ (t.name, (t.args.length : Int)) t.args.length) σ.cells.length 0 (t.args.take i)).cells (σ.cells.length : Nat) = (5, ((functorS σ (t.name, (t.args.length : Int))).2 : Int)) ∧
            (∀ u ∈ (layA (layH σ (t.name, (t.args.length : Int)) t.args.length) σ.cells.length 0 (t.args.take i)).consts, AtF u) ∧
            ∀ j u, j < i → t.args[j]? = some u → RD (layA (layH σ (t.name, (t.args.length : Int)) t.args.length) σ.cells.length 0 (t.args.take i)) (σ.cells.length + 1 + t.args.length) (ci (layA (layH σ (t.name, (t.args.length : Int)) t.args.length) σ.cells.length 0 (t.args.take i)).cells ((σ.cells.length + 1 + j : Nat) : Int)) u := by
          intro i
          induction i with
          | zero => intro _; rw [List.take_zero, layA, Nat.add_zero]; exact ⟨hH, hgr, List.prefix_refl _, List.prefix_refl _, by rw [hg.2.2.2.2.1]; exact Nat.le_refl _, e2, hcH, fun j u hj => by omega⟩
          | succ i ih =>
            intro hi
            have hlt : i < t.args.length := by omega
            obtain ⟨i1, i2, i3, i4, i5, i6, i7, i8⟩ := ih (by omega)
            have hAv := (zan (σ := layH σ (t.name, (t.args.length : Int)) t.args.length) (at' := σ.cells.length) (l := t.args) (fun u _ σ => z7a _ u (Nat.lt_succ_self _) σ) i (by omega)).vars
            rw [z4x hlt]
            generalize layA (layH σ (t.name, (t.args.length : Int)) t.args.length) σ.cells.length 0 (t.args.take i) = τ at *
            have hum := List.getElem_mem hlt
            have hcl := i2.cells.length_le
            have hev := hAv.trans hg.1
            have hocc' : ∀ v ∈ occ t.args[i], okV τ v := fun v hv => by
              have := hocc v (z94 hum hv)
              unfold okV at this ⊢
              rw [hev]; exact this
            have hUU : ∀ a, (U a ∨ (σ.cells.length + 1 + i ≤ a ∧ a < σ.cells.length + 1 + t.args.length)) → a < τ.cells.length := fun a ha => by rcases ha with ha | ha; have := hU a ha; omega; omega
            have hsz' : SizeOf.sizeOf t.args[i] < m := by have := z0u hum; omega
            obtain ⟨j1, j2, j3⟩ := zdo m (t := t.args[i]) hsz' i1 hUU (hf.args _ hum) (hb.args _ hum) hocc'
            obtain ⟨r1, r2⟩ := zkm m (t := t.args[i]) hsz' i1 hUU (hf.args _ hum) (hb.args _ hum) hocc' (hu.grow h i2 hev) i7
            have ho : gi (layS τ t.args[i]).1.own ((σ.cells.length + 1 + i : Nat) : Int) = -2 := by
              have h1 : σ.cells.length + 1 + i < (layH σ (t.name, (t.args.length : Int)) t.args.length).own.length := by rw [hg.2.2.2.2.2.1, hlo]; omega
              rw [z1x (i3.trans j3.own) h1]; exact e3 i hlt
            have hc1 := j3.cells.length_le
            have hci : ∀ n : Nat, n ≠ σ.cells.length + 1 + i → ci ((layS τ t.args[i]).1.cells.set (σ.cells.length + 1 + i) (layS τ t.args[i]).2) n = ci (layS τ t.args[i]).1.cells n := fun n hn => by rw [z51 (by omega), if_neg hn]
            refine ⟨j1.fill (by omega) ho j2 (fun b hb hbu => ?_), zdn (i2.trans j3) (by omega), i3.trans j3.own, i4.trans j3.funs, by simp only [List.length_set]; omega, ?_, r2, fun j u hj hju => ?_⟩
            · rcases hbu with hbu | hbu
              · exact .inl hbu
              · exact .inr ⟨by omega, by omega⟩
            · show ci ((layS τ t.args[i]).1.cells.set _ _) (σ.cells.length : Nat) = _
              rw [hci _ (by omega), z50 j3.cells (by omega)]; exact i6
            · show RD _ _ (ci ((layS τ t.args[i]).1.cells.set (σ.cells.length + 1 + i) (layS τ t.args[i]).2) ((σ.cells.length + 1 + j : Nat) : Int)) u
              by_cases hji : j = i
              · subst hji
                rw [List.getElem?_eq_getElem hlt] at hju
                cases hju
                rw [z51 (by omega), if_pos rfl]
                exact (r1.low i5).set (by omega) (by omega) (by rw [ho]; omega)
              · rw [hci _ (by omega), z50 j3.cells (by omega)]
                exact ((i8 j u (by omega) hju).grow j3 i1.lo).set (by omega) (by omega) (by rw [ho]; omega)
        obtain ⟨q1, q2, q3, q4, q5, q6, q7, q8⟩ := key t.args.length (Nat.le_refl _)
        rw [List.take_length] at q1 q2 q3 q4 q5 q6 q7 q8
        refine ⟨?_, q7⟩
        have et : t = .mk 5 t.name e0 0 0 t.args := by
          conv => lhs; rw [zdr t]
          rw [k5, hbl.2.1 (by omega), hbl.2.2.1 (by omega), hbl.2.2.2.1 (by omega)]
        conv => arg 4; rw [et]
        refine .str σ.cells.length (functorS σ (t.name, (t.args.length : Int))).2 t.name t.args (Nat.le_refl _) (by simp only; omega) q6 (zc2 q4 (zc3 σ _)) (fun i hi => by simp only; omega) fun i u hiu => ?_
        exact (q8 i u (List.getElem?_eq_some_iff.1 hiu).1 hiu).low (by omega)
      · rw [z4v k1 k5]
        have ha := zf2 hc (t := t) ⟨hf, k1, k5⟩
        exact ⟨.con _ t ha.1 (hbl.2.2.2.2 k5), ha.2⟩
end Go.Proofs.YthkogijbkachdaaDoor.hb
end

-- Sq10
section
namespace Go.Proofs.YthkogijbkachdaaDoor.hb
open Go Go.RowKit Go.Hb
theorem zhw : ∀ n, Unb (mkN n)
  | 0 => fun v k hv _ _ => by simp [mkN, noS] at hv
  | n + 1 => fun v k hv hk hc => by
    have h := z49 n
    have e1 : (mkN (n + 1)).vars = (mkN n).vars ++ [((mkN n).cells.length : Int)] := rfl
    have e2 : (mkN (n + 1)).cells = (mkN n).cells ++ [(1, ((mkN n).vars.length : Int))] := rfl
    rw [e1] at hv hk
    rw [e2] at hc ⊢
    simp only [List.length_append, List.length_cons, List.length_nil] at hv hc
    by_cases q : v < (mkN n).vars.length
    · rw [z1x (List.prefix_append _ _) q] at hk
      obtain ⟨k', h1, h2, -⟩ := (z5p n).var v q
      have : k = k' := by omega
      subst this
      rw [z50 (List.prefix_append _ _) h2]
      exact zhw n v k q hk h2
    · have ev : v = (mkN n).vars.length := by omega
      rw [ev, zaw] at hk
      have ek : k = (mkN n).cells.length := by omega
      rw [ek, zdm, ev]
theorem zds : ∀ n, ∀ x ∈ (mkN n).flags, x = false
  | 0 => fun x hx => by simp [mkN, noS] at hx
  | n + 1 => fun x hx => by
    have e1 : (mkN (n + 1)).flags = (mkN n).flags ++ [false] := rfl
    rw [e1] at hx
    rcases List.mem_append.1 hx with q | q
    · exact zds n x q
    · rw [List.mem_singleton] at q; exact q
theorem zf3 {n : Nat} {t : Tm} (hb : BdA t) (h0 : (layV (mkN n) t).2.2 = 0) : termS (layV (mkN n) t).1 (layV (mkN n) t).2.1 = (t, 0) := by
  have hm := (z7g (z5p n) hb).2.2.1 h0
  have hc : checkS t = 0 := by
    by_cases q : checkS t = 0
    · exact q
    · rw [layV, if_pos q] at h0; exact h0
  have hall : ∀ v ∈ occ t, okV (mkN n) v := by
    by_cases q : ∀ v ∈ occ t, okV (mkN n) v
    · exact q
    · rw [layV, if_neg (by rw [hc]; simp), if_neg q] at h0; cases h0
  have e : layV (mkN n) t = ((layS (mkN n) t).1, (layS (mkN n) t).2, 0) := by rw [layV, if_neg (by rw [hc]; simp), if_pos hall]
  rw [e] at hm ⊢
  have h := z49 n
  have hz := z3t.1 hc
  obtain ⟨hr, -⟩ := zkm _ (Nat.lt_succ_self _) (z5p n) (fun a q => q.elim) hz.2 hb hall (zhw n) (fun u hu => by rw [h.2.2.2.2.1] at hu; cases hu)
  have hn : nd t ≤ 4000 := by have := hz.1; have := zhg _ t (Nat.lt_succ_self _) 0 this; omega
  have ht := zhv 4001 (n := 0) hr (by omega) (by omega)
  unfold termS
  simp only at hm ⊢
  rw [hm, ht, if_neg (by simp), if_neg (by simp only; omega)]
theorem zf4 {σ : SS} {t : Tm} : (layV σ t).1.flags = σ.flags := by
  unfold layV
  split
  · rfl
  · split
    · exact (z7a _ t (Nat.lt_succ_self _) σ).flags
    · rfl
structure BI (ρ σ : SS) (w k : Nat) : Prop where
  wf : WF noU σ
  tr : ∀ x ∈ σ.trail, TrOk σ x
  back : Back ρ σ
  mk0 : σ.marks[0]? = some (lens ρ)
  fv : σ.vars.length ≤ 6 + k
  fc : σ.cells.length ≤ 6 + 2 * w + k
  fk : σ.consts.length ≤ w
  ff : σ.funs.length ≤ w
  ft : σ.trail.length ≤ k
  fm : σ.marks.length ≤ 1 + k
theorem BI.make {ρ σ : SS} {w k : Nat} (h : BI ρ σ w k) : BI ρ (makeS σ) w (k + 1) := by
  refine ⟨zhq h.wf, fun x hx => (h.tr x hx).grow (z7d σ), h.back.grow (z7d σ) rfl h.wf.lf h.tr, h.mk0, ?_, ?_, h.fk, h.ff, Nat.le_succ_of_le h.ft, Nat.le_succ_of_le h.fm⟩
  · have := h.fv; show (σ.vars ++ [_]).length ≤ _; simp; omega
  · have := h.fc; show (σ.cells ++ [_]).length ≤ _; simp; omega
theorem BI.lay {ρ σ : SS} {w k : Nat} (h : BI ρ σ w k) {t : Tm} (hb : BdA t) : BI ρ (layV σ t).1 (w + nd t) k := by
  obtain ⟨a1, a2, a3, a4, a5, a6, a7, a8, a9⟩ := z7g h.wf hb
  refine ⟨a1, fun x hx => ?_, h.back.grow a2 a4 h.wf.lf h.tr, by rw [a5]; exact h.mk0, by rw [a6]; exact h.fv, by have := h.fc; omega, by have := h.fk; omega, by have := h.ff; omega, by rw [a4]; exact h.ft, by rw [a5]; exact h.fm⟩
  rw [a4] at hx; exact (h.tr x hx).grow a2
theorem BI.le {ρ σ : SS} {w k w' k' : Nat} (h : BI ρ σ w k) (hw : w ≤ w') (hk : k ≤ k') : BI ρ σ w' k' :=
  ⟨h.wf, h.tr, h.back, h.mk0, by have := h.fv; omega, by have := h.fc; omega, by have := h.fk; omega, by have := h.ff; omega, by have := h.ft; omega, by have := h.fm; omega⟩
theorem BI.bind {ρ σ : SS} {w k : Nat} (h : BI ρ σ w k) (v : Int) (c : Int × Int) : BI ρ (bindS σ v c).1 w (k + 1) := by
  obtain ⟨hw, hs⟩ := h.wf.bind (v := v) (c := c)
  have hbk := h.back.bind (v := v) (c := c) h.wf
  rcases hs with e | ⟨n, k', rfl, hn, ek, hk, hcc, e⟩
  · rw [e]; exact h.le (Nat.le_refl _) (Nat.le_succ _)
  · rw [e] at hw hbk ⊢
    refine ⟨hw, fun x hx => ?_, hbk, h.mk0, Nat.le_succ_of_le h.fv, by simp only [List.length_set]; exact Nat.le_succ_of_le h.fc, h.fk, h.ff, by have := h.ft; simp; omega, Nat.le_succ_of_le h.fm⟩
    have hx' : x ∈ σ.trail ++ [(0, (n : Int))] := hx
    rcases List.mem_append.1 hx' with q | q
    · exact (h.tr x q).same rfl (by simp)
    · rw [List.mem_singleton] at q; subst q
      exact ⟨.inl rfl, n, k', rfl, hn, ek, by simp; exact hk⟩
theorem BI.flag {ρ σ : SS} {w k : Nat} (h : BI ρ σ w k) (v : Int) : BI ρ (flagS σ v).1 w (k + 1) := by
  unfold flagS
  split
  · exact h.le (Nat.le_refl _) (Nat.le_succ _)
  rename_i h0
  split
  · exact h.le (Nat.le_refl _) (Nat.le_succ _)
  rename_i hf
  obtain ⟨hv, -⟩ := z3u (Classical.not_not.1 h0)
  obtain ⟨n, rfl⟩ := Int.eq_ofNat_of_zero_le hv.1
  have hn : n < σ.vars.length := by have := hv.2.1; omega
  obtain ⟨k', ek, hk, ok⟩ := h.wf.var n hn
  have hnf : n < σ.flags.length := by rw [h.wf.lf]; exact hn
  simp only [Int.toNat_natCast] at hf ⊢
  have ef : σ.flags[n]? = some false := by
    rw [List.getElem?_eq_getElem hnf] at hf ⊢
    simpa using hf
  refine ⟨h.wf.other (by simp), fun x hx => ?_, h.back.entry (x := (1, (n : Int))) rfl ?_, h.mk0, Nat.le_succ_of_le h.fv, Nat.le_succ_of_le h.fc, h.fk, h.ff, by have := h.ft; simp; omega, Nat.le_succ_of_le h.fm⟩
  · have hx' : x ∈ σ.trail ++ [(1, (n : Int))] := hx
    rcases List.mem_append.1 hx' with q | q
    · exact (h.tr x q).same rfl rfl
    · rw [List.mem_singleton] at q; subst q
      exact ⟨.inr rfl, n, k', rfl, hn, ek, hk⟩
  · unfold undo1
    rw [if_neg (by simp)]
    have e2 : (σ.flags.set n true).set ((n : Int)).toNat false = σ.flags := by
      rw [Int.toNat_natCast]; exact z3n ef
    show { σ with flags := (σ.flags.set n true).set ((n : Int)).toNat false, trail := _ } = _
    rw [e2]
theorem BI.mark {ρ σ : SS} {w k : Nat} (h : BI ρ σ w k) : BI ρ { σ with marks := σ.marks ++ [lens σ] } w (k + 1) :=
  ⟨h.wf.other rfl, h.tr, h.back.marks _, by
    have hl : 0 < σ.marks.length := (List.getElem?_eq_some_iff.1 h.mk0).1
    show (σ.marks ++ [_])[0]? = _
    rw [List.getElem?_append_left hl]; exact h.mk0, Nat.le_succ_of_le h.fv, Nat.le_succ_of_le h.fc, h.fk, h.ff, Nat.le_succ_of_le h.ft, by have := h.fm; simp; omega⟩
theorem BI.start {t : Tm} (hb : BdA t) : BI (layV (mkN 6) t).1 { (layV (mkN 6) t).1 with marks := (layV (mkN 6) t).1.marks ++ [lens (layV (mkN 6) t).1] } (nd t) 0 := by
  have h := z49 6
  obtain ⟨a1, a2, a3, a4, a5, a6, a7, a8, a9⟩ := z7g (z5p 6) hb
  rw [h.2.2.2.2.2.2.1] at a4
  rw [h.2.2.2.2.2.2.2] at a5
  rw [h.2.1] at a7
  rw [h.2.2.2.2.1] at a8
  rw [h.2.2.2.2.2.1] at a9
  have a6' : (layV (mkN 6) t).1.vars.length = 6 := by rw [a6]; exact h.1
  refine ⟨a1.other rfl, fun x hx => ?_, (Back.refl _).marks _, by rw [a5]; rfl, Nat.le_of_eq a6', a7, by show (layV (mkN 6) t).1.consts.length ≤ _; simp only [List.length_nil] at a8; omega, by show (layV (mkN 6) t).1.funs.length ≤ _; simp only [List.length_nil] at a9; omega, by rw [a4]; exact Nat.le_refl _, by rw [a5]; exact Nat.le_refl _⟩
  rw [a4] at hx; cases hx
theorem BI.undo {ρ σ : SS} {w k : Nat} (h : BI ρ σ w k) (hρ : WF noU ρ) : undoS σ 0 ρ.trail.length ρ.cells.length ρ.vars.length = { ρ with consts := σ.consts, funs := σ.funs, marks := σ.marks.take 1 } :=
  (zf1 (n := 0) h.back).resolve_right fun q => by rcases q with q | q; exact q hρ.lf; exact q hρ.lo
theorem BI.grow {ρ σ : SS} {w k : Nat} (h : BI ρ σ w k) : Grow ρ { ρ with consts := σ.consts, funs := σ.funs, marks := σ.marks.take 1 } := (Grow.undo h.back).other _ _
theorem BI.le' {ρ σ : SS} {w k : Nat} (h : BI ρ σ w k) : ρ.trail.length ≤ σ.trail.length ∧ ρ.cells.length ≤ σ.cells.length ∧ ρ.vars.length ≤ σ.vars.length := by
  have hse := z1h σ (σ.trail.drop ρ.trail.length)
  refine ⟨h.back.tr.length_le, ?_, ?_⟩
  · have := h.back.up.cells.length_le; rw [hse.2.2.2.2.2.2.1] at this; exact this
  · have := h.back.up.vars.length_le; rw [hse.1] at this; exact this
theorem BI.varb {ρ σ : SS} {w k : Nat} (h : BI ρ σ w k) (hk : k ≤ 149796) (hw : w ≤ 149796) : VarB σ := fun n hn => by
  obtain ⟨k, h1, h2, -⟩ := h.wf.var n hn
  have := h.fc
  rw [h1]; omega
theorem BI.few {ρ σ : SS} {w k n : Nat} (h : BI ρ σ w k) (hw : w + n ≤ 149796) (hk : k ≤ 149796) : σ.cells.length + 2 * n + 1 ≤ most ∧ σ.own.length + 1 ≤ most ∧ σ.vars.length + 1 ≤ most ∧ σ.flags.length + 1 ≤ most ∧ σ.consts.length + n ≤ most ∧ σ.funs.length + n ≤ most ∧ σ.trail.length + 1 ≤ most ∧ σ.marks.length + 1 ≤ most := by
  have := h.fc; have := h.fk; have := h.ff; have := h.fv; have := h.ft; have := h.fm; have := h.wf.lo; have := h.wf.lf
  unfold most; omega
end Go.Proofs.YthkogijbkachdaaDoor.hb
end

-- Sb8
section
namespace Go.Proofs.YthkogijbkachdaaDoor.hb
open Go Go.RowKit Go.Hb
variable {ok : Ok}
set_option maxRecDepth 10000
attribute [local irreducible] LX LG EL STG SOP SGO SGD SAL SRD SEF SEG SLK SCK ES
structure OpV where
  kind : Int
  num : Int
  tm : Tm
  cell : Int × Int
structure RepO15 (H : Heap) (B : List OpV) (a : Option Addr) (c : Nat) : Prop where
  len : B.length ≤ c
  cap : c ≤ maxLen
  el : ∀ (i : Nat) (h : i < B.length), ∃ b o a' c', a = some ⟨b, o, none⟩ ∧ H.load ⟨b, o + i * 15 + 1, none⟩ 1 = some [.int .i64 B[i].kind] ∧ H.load ⟨b, o + i * 15 + 2, none⟩ 1 = some [.int .i64 B[i].num] ∧
    H.load ⟨b, o + i * 15 + 3, none⟩ 6 = some (six B[i].tm a' c') ∧ H.load ⟨b, o + i * 15 + 9, none⟩ 2 = some [.int .i64 B[i].cell.1, .int .i64 B[i].cell.2] ∧ RepT H B[i].tm (six B[i].tm a' c')
theorem RepO15.mono {H H' : Heap} {B : List OpV} {a : Option Addr} {c : Nat} (h : RepO15 H B a c) (hx : HX H H') (hw : H.wf) : RepO15 H' B a c :=
  ⟨h.len, h.cap, fun i hi => by obtain ⟨b, o, a', c', e, l1, l2, l3, l4, r⟩ := h.el i hi; exact ⟨b, o, a', c', e, hx.load hw l1, hx.load hw l2, hx.load hw l3, hx.load hw l4, r.mono hx hw⟩⟩
end Go.Proofs.YthkogijbkachdaaDoor.hb
end
