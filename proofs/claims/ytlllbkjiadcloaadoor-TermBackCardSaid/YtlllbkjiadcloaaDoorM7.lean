import Derived.Test.YtlllbkjiadcloaaDoorM3
import Derived.Test.YtlllbkjiadcloaaDoorM6
import Derived.Test.YtlllbkjiadcloaaDoorM4
import Derived.Test.YtlllbkjiadcloaaDoorM5
/- Lemmas on the program's own code, towards the laws of this folder, part 7. Conditions: as each lemma says. -/
-- Pd7
section
namespace Go.Hb
open Go Go.RowKit
theorem HK.side {S S' : Nat → Prop} {A B C : Heap} (h : HK S A B) (k : HK S' B C) (hs : ∀ n, n < A.next → ¬ S' n) : HK S A C :=
  ⟨Nat.le_trans h.next k.next, fun i hi hn => by rw [k.keep i (Nat.lt_of_lt_of_le hi h.next) (hs i hi), h.keep i hi hn], k.wf⟩
def kXor (k : IntKind) (a b : Int) : Int := k.wrap (BitVec.ofInt k.bits a ^^^ BitVec.ofInt k.bits b).toNat
theorem bXor {P : Program} {H : Heap} {t : TypeId} {x y : Operand} {k : IntKind} {a b : Int} : dBin P .xor t x y (.int k a) (.int k b) H = some (.val (.int k (kXor k a b)) H) := by
  simp [dBin, dnil, flat, eqGuard, binOp, Op.intBits, Sem.bind, -BitVec.toNat_xor, -BitVec.toNat_ofInt]; rfl
theorem zn3 {z : Int} {m : Nat} (hm : m < 18446744073709551616) : ∃ q : Nat, kAnd .u64 z (m : Int) = (q : Int) ∧ q ≤ m := by
  unfold kAnd
  refine ⟨(BitVec.ofInt 64 z &&& BitVec.ofInt 64 (m : Int)).toNat, ?_, ?_⟩
  · show IntKind.u64.wrap ((BitVec.ofInt 64 z &&& BitVec.ofInt 64 (m : Int)).toNat : Int) = _
    have := (BitVec.ofInt 64 z &&& BitVec.ofInt 64 (m : Int)).isLt
    rw [wrap_u64 (by omega) (by omega)]
  · rw [BitVec.ofInt_natCast, BitVec.toNat_and, BitVec.toNat_ofNat, Nat.mod_eq_of_lt (by omega)]
    exact Nat.and_le_right
end Go.Hb
namespace Go.Proofs.YtlllbkjiadcloaaDoor.hb
open Go Go.RowKit Go.Hb
variable {ok : Ok}
set_option maxRecDepth 10000
attribute [local irreducible] LX LG EL STG SOP SGO SGD SAL SRD SEF SEG SLK SCK ES
set_option maxHeartbeats 16000000 in
theorem zcr {b n c a e : Nat} {D : Nat → Bnd} {H : Heap} (hr : RowB H 59 b n D) (hn : n ≤ most) (h1 : a < e) (h3 : e ≤ n) (low : 0 < a → ∀ k, a ≤ k → k < e → (D (a - 1)).v ≤ (D k).v) (hw : H.wf) :
    EvF Tryd.prog okT 118 [.slice (some ⟨b, 0, none⟩) n c, .int .i64 (a : Nat), .int .i64 (e : Nat), cvB] H fun v H' =>
      ∃ (t : Bool) (D' : Nat → Bnd), v = .bool t ∧ RowB H' 59 b n D' ∧ Pm a e D D' ∧ (t = true → InZ Bnd.v a e D') ∧ HK (· = b) H H' := by
  have hms : most ≤ 1048576 := by simp [most]
  have hg := z2l
  have low' : ∀ D', Pm a e D D' → 0 < a → ∀ k, a ≤ k → k < e → (D' (a - 1)).v ≤ (D' k).v := fun D' h h0 => by
    rw [h.out (k := a - 1) (.inl (by omega))]
    exact h.all (P := fun x => (D (a - 1)).v ≤ x.v) (low h0)
  refine EvF.enter rfl Tryd.func118 (by decide) rfl ?_
  have hwa : IntKind.i64.wrap ((a : Int) + 1) = ((a + 1 : Nat) : Int) := by rw [z05 (by omega) (by omega)]; omega
  have hwl : IntKind.i64.wrap ((e : Int) - (a : Int)) = ((e - a : Nat) : Int) := by rw [z05 (by omega) (by omega)]; omega
  (repeat refine EvC.seq ?_); refine EvC.reg ?_; simp (config := { maxSteps := 2000000 }) (disch := first | omega | rfl) only [sA, initTm, Nat.reduceAdd]
  (repeat refine EvC.seq ?_); refine EvC.reg ?_; simp (config := { maxSteps := 2000000 }) (disch := first | omega | rfl) only [sB, Nat.reduceEqDiff, reduceCtorEq, hwa]
  (repeat refine EvC.seq ?_); refine EvC.reg ?_; simp (config := { maxSteps := 2000000 }) (disch := first | omega | rfl) only [sA]
  (repeat refine EvC.seq ?_)
  refine EvC.block (EvC.loop (fun k st => ∃ tm H' s i D', st = ⟨tm, [], H'⟩ ∧ k = 5 - s ∧ s ≤ 5 ∧ a + 1 ≤ i ∧ i ≤ e ∧ tm.get 0 = some (.slice (some ⟨b, 0, none⟩) n c) ∧ tm.get 1 = some (.int .i64 (a : Nat)) ∧ tm.get 2 = some (.int .i64 (e : Nat)) ∧ tm.get 3 = some cvB ∧
    tm.get 9 = some (.int .i64 (i : Nat)) ∧ tm.get 10 = some (.int .i64 (s : Nat)) ∧ RowB H' 59 b n D' ∧ Pm a e D D' ∧ InZ Bnd.v a i D' ∧ HK (· = b) H H') ?_ 5 _ ?_)
  rotate_left
  · exact ⟨_, _, 0, a + 1, D, rfl, rfl, by omega, Nat.le_refl _, by omega, (by simp only [sG, reduceCtorEq] <;> rfl), (by simp only [sG, Nat.reduceEqDiff, reduceCtorEq] <;> rfl), (by simp only [sG, Nat.reduceEqDiff, reduceCtorEq] <;> rfl), (by simp only [sG, Nat.reduceEqDiff, reduceCtorEq] <;> rfl), (by simp only [sG, Nat.reduceEqDiff, reduceCtorEq] <;> rfl), (by simp only [sB, Nat.reduceEqDiff, reduceCtorEq] <;> rfl), hr, Pm.refl D, InZ.few (by omega), HK.refl hw⟩
  rintro k st ⟨tm, H', s, i0, D0, rfl, rfl, hs, hi1, hi2, t0, t1, t2, t3, t9, t10, hr0, hm0, ho0, hk0⟩
  by_cases hs5 : s < 5
  rotate_left
  · have hd : decide ((s : Int) < 5) = false := decide_eq_false (by omega)
    repeat' (first | refine EvC.seq ?_ | refine EvC.scope ?_ | refine EvC.block ?_ | (refine EvC.skip ?_) | (refine EvC.exit ?_; try simp only [sB]) | (refine EvC.ret ?_; try simp only [z01, z00]) | (refine EvC.reg ?_; simp (config := { maxSteps := 2000000 }) (disch := first | omega | rfl) only [sB, t10, hd]) | (refine EvC.condT ?_ ?_; simp (config := { maxSteps := 2000000 }) (disch := first | omega | rfl) only [sB, Nat.reduceEqDiff]; refine z03 ?_) | (refine EvC.condF ?_ ?_; simp (config := { maxSteps := 2000000 }) (disch := first | omega | rfl) only [sB, Nat.reduceEqDiff]; refine z03 ?_))
    exact z04 rfl (by simp only [sG, Nat.reduceEqDiff] <;> rfl) ⟨false, D0, rfl, hr0, hm0, (fun h => by cases h), hk0⟩
  have hd5 : decide ((s : Int) < 5) = true := decide_eq_true (by omega)
  (repeat refine EvC.seq ?_); refine EvC.reg ?_; simp (config := { maxSteps := 2000000 }) (disch := first | omega | rfl) only [sB, t10, hd5]
  (repeat refine EvC.seq ?_); refine EvC.condT (by simp (config := { maxSteps := 2000000 }) (disch := first | omega | rfl) only [sB, Nat.reduceEqDiff]) ?_; (try refine EvC.skip ?_); (try simp only [z02, z09])
  refine EvC.seq ?_
  refine EvC.block ?_
  refine EvC.cut (fun st => ∃ tm H' i, st = ⟨tm, [], H'⟩ ∧ a ≤ i ∧ i + 1 ≤ e ∧ InZ Bnd.v a (i + 1) D0 ∧ (i + 1 < e → (D0 (i + 1)).v < (D0 i).v) ∧ tm.get 0 = some (.slice (some ⟨b, 0, none⟩) n c) ∧ tm.get 1 = some (.int .i64 (a : Nat)) ∧ tm.get 2 = some (.int .i64 (e : Nat)) ∧ tm.get 3 = some cvB ∧
    tm.get 9 = some (.int .i64 ((i + 1 : Nat) : Int)) ∧ tm.get 10 = some (.int .i64 (s : Nat)) ∧ RowB H' 59 b n D0 ∧ HK (· = b) H H') ?_ ?_
  · refine EvC.block (EvC.loop (fun k st => ∃ tm H' i, st = ⟨tm, [], H'⟩ ∧ k = e - i ∧ a + 1 ≤ i ∧ i ≤ e ∧ InZ Bnd.v a i D0 ∧ tm.get 0 = some (.slice (some ⟨b, 0, none⟩) n c) ∧ tm.get 1 = some (.int .i64 (a : Nat)) ∧ tm.get 2 = some (.int .i64 (e : Nat)) ∧ tm.get 3 = some cvB ∧
      tm.get 9 = some (.int .i64 (i : Nat)) ∧ tm.get 10 = some (.int .i64 (s : Nat)) ∧ RowB H' 59 b n D0 ∧ HK (· = b) H H') ?_ (e - i0) _ ?_)
    · rintro k st ⟨tm, H', i, rfl, rfl, hi3, hi4, ho, t0, t1, t2, t3, t9, t10, hr', hk⟩
      obtain ⟨i, rfl⟩ : ∃ j, i = j + 1 := ⟨i - 1, by omega⟩
      by_cases hlt : i + 1 < e
      · have hwm : IntKind.i64.wrap (((i + 1 : Nat) : Int) - 1) = ((i : Nat) : Int) := by rw [z05 (by omega) (by omega)]; omega
        have hwp : IntKind.i64.wrap (((i + 1 : Nat) : Int) + 1) = ((i + 1 + 1 : Nat) : Int) := by rw [z05 (by omega) (by omega)]; omega
        have k1 : i + 1 < n := by omega
        have k2 : i < n := by omega
        have l1 := hr'.load k1
        have l2 := hr'.load k2
        have hb := hk.bump 18
        repeat' (first | refine EvC.seq ?_ | refine EvC.scope ?_ | refine EvC.block ?_ | (refine EvC.skip ?_) | (refine EvC.exit ?_) | (refine EvC.ret ?_; try simp only [z01, z00]) | (refine EvC.drw (id := 5) [([(0, 0), (1, 0), (2, 0), (3, 0), (4, 0), (5, 0), (6, 0), (7, 0), (8, 0), (9, 0), (10, 0), (11, 0), (12, 0), (13, 0)], some 14), ([(15, 1), (16, 1), (17, 1)], none)] ?_ ?_; kernel_rfl; simp (config := { maxSteps := 2000000 }) (disch := first | omega | rfl) only [sD, sB, Nat.reduceEqDiff, Nat.reduceAdd, reduceCtorEq, ia57, ld59, t0, t2, t3, t9, decl hlt, hwm, l1, l2, z0o, z0f hg, isAlloc, isRead, reduceCtorEq]))
        obtain ⟨cells0, hg0, -, -⟩ := hr'.row
        have hbl := hk.wf _ _ hg0
        refine (z1t hb.wf).mono ?_
        rintro v H2 ⟨rfl, hx2⟩
        have hk2 := hb.hxs hx2
        have r2 := hr'.heap (H' := H2) (by rw [hx2.keep b (Nat.lt_add_right _ hbl)]; rfl)
        by_cases hc : (D0 (i + 1)).v < (D0 i).v
        · repeat' (first | refine EvC.seq ?_ | refine EvC.scope ?_ | refine EvC.block ?_ | (refine EvC.skip ?_) | (refine EvC.exit ?_; try simp only [sB, reduceCtorEq]) | (refine EvC.ret ?_; try simp only [z01, z00]) | (refine z0h ?_; simp (config := { maxSteps := 2000000 }) (disch := first | omega | rfl) only [sD, sB, Nat.reduceEqDiff, cz_t hc, Bool.not_true, isAlloc, isRead]) | (refine EvC.condT ?_ ?_; simp (config := { maxSteps := 2000000 }) (disch := first | omega | rfl) only [sB, Nat.reduceEqDiff]; refine z03 ?_) | (refine EvC.condF ?_ ?_; simp (config := { maxSteps := 2000000 }) (disch := first | omega | rfl) only [sB, Nat.reduceEqDiff]; refine z03 ?_))
          exact ⟨_, _, i, rfl, by omega, by omega, ho, fun _ => hc, (by simp only [sG, reduceCtorEq, t0] <;> rfl), (by simp only [sG, Nat.reduceEqDiff, t1] <;> rfl), (by simp only [sG, Nat.reduceEqDiff, t2] <;> rfl), (by simp only [sG, Nat.reduceEqDiff, t3] <;> rfl), (by simp only [sG, Nat.reduceEqDiff, t9] <;> rfl), (by simp only [sG, Nat.reduceEqDiff, t10] <;> rfl), r2, hk2⟩
        · repeat' (first | refine EvC.seq ?_ | refine EvC.scope ?_ | refine EvC.block ?_ | (refine EvC.skip ?_; try simp only [z02]) | (refine EvC.exit ?_) | (refine EvC.ret ?_; try simp only [z01, z00]) | (refine EvC.reg ?_; simp (config := { maxSteps := 2000000 }) (disch := first | omega | rfl) only [sB, Nat.reduceEqDiff, t9, hwp]) | (refine z0h ?_; simp (config := { maxSteps := 2000000 }) (disch := first | omega | rfl) only [sD, sB, Nat.reduceEqDiff, cz_f hc, Bool.not_false, isAlloc, isRead]) | (refine EvC.condT ?_ ?_; simp (config := { maxSteps := 2000000 }) (disch := first | omega | rfl) only [sB, Nat.reduceEqDiff]; refine z03 ?_))
          exact ⟨e - (i + 1 + 1), by omega, _, _, i + 1 + 1, rfl, rfl, by omega, by omega, fun p q p1 p2 p3 => by
            by_cases e1 : q = i + 1
            · subst e1
              by_cases e2 : p = i
              · subst e2; omega
              · exact Int.le_trans (ho p i p1 (by omega) (by omega)) (by omega)
            · exact ho p q p1 p2 (by omega), (by simp only [sG, reduceCtorEq, t0] <;> rfl), (by simp only [sG, Nat.reduceEqDiff, t1] <;> rfl), (by simp only [sG, Nat.reduceEqDiff, t2] <;> rfl), (by simp only [sG, Nat.reduceEqDiff, t3] <;> rfl), (by simp only [sG, Nat.reduceEqDiff] <;> rfl), (by simp only [sG, Nat.reduceEqDiff, t10] <;> rfl), r2, hk2⟩
      · repeat' (first | refine EvC.seq ?_ | refine EvC.scope ?_ | refine EvC.block ?_ | (refine EvC.skip ?_) | (refine EvC.exit ?_; try simp only [sB, reduceCtorEq]) | (refine EvC.ret ?_; try simp only [z01, z00]) | (refine EvC.drw (id := 5) [([(0, 0), (1, 0), (2, 0), (3, 0), (4, 0), (5, 0), (6, 0), (7, 0), (8, 0), (9, 0), (10, 0), (11, 0), (12, 0), (13, 0)], some 14), ([(15, 1), (16, 1), (17, 1)], none)] ?_ ?_; kernel_rfl; simp (config := { maxSteps := 2000000 }) (disch := first | omega | rfl) only [sD, sB, Nat.reduceEqDiff, Nat.reduceAdd, t2, t9, decn hlt, Bool.false_eq_true, isAlloc, isRead]) | (refine EvC.condT ?_ ?_; simp (config := { maxSteps := 2000000 }) (disch := first | omega | rfl) only [sB, Nat.reduceEqDiff]; refine z03 ?_) | (refine EvC.condF ?_ ?_; simp (config := { maxSteps := 2000000 }) (disch := first | omega | rfl) only [sB, Nat.reduceEqDiff]; refine z03 ?_))
        exact ⟨_, _, i, rfl, by omega, by omega, ho, fun h => absurd h hlt, (by simp only [sG, reduceCtorEq, t0] <;> rfl), (by simp only [sG, Nat.reduceEqDiff, t1] <;> rfl), (by simp only [sG, Nat.reduceEqDiff, t2] <;> rfl), (by simp only [sG, Nat.reduceEqDiff, t3] <;> rfl), (by simp only [sG, Nat.reduceEqDiff, t9] <;> rfl), (by simp only [sG, Nat.reduceEqDiff, t10] <;> rfl), hr'.heap rfl, hk.bump _⟩
    · exact ⟨_, _, i0, rfl, rfl, hi1, hi2, ho0, (by simp only [sG, reduceCtorEq, t0] <;> rfl), (by simp only [sG, Nat.reduceEqDiff, t1] <;> rfl), (by simp only [sG, Nat.reduceEqDiff, t2] <;> rfl), (by simp only [sG, Nat.reduceEqDiff, t3] <;> rfl), (by simp only [sG, Nat.reduceEqDiff, t9] <;> rfl), (by simp only [sG, Nat.reduceEqDiff, t10] <;> rfl), hr0, hk0⟩
  clear t0 t1 t2 t3 t9 t10
  rintro st ⟨tm, H1, u, rfl, hau, hue, ho1, hstop, t0, t1, t2, t3, t9, t10, hr1, hk1⟩
  by_cases hie : u + 1 = e
  · have : (((u + 1 : Nat) : Int) == (e : Int)) = true := z1p (by omega)
    repeat' (first | refine EvC.seq ?_ | refine EvC.scope ?_ | refine EvC.block ?_ | (refine EvC.skip ?_) | (refine EvC.exit ?_) | (refine EvC.ret ?_; try simp only [z01, z00]) | (refine EvC.reg ?_; simp (config := { maxSteps := 2000000 }) (disch := first | omega | rfl) only [sB, Nat.reduceEqDiff, t2, t9, this]) | (refine EvC.condT ?_ ?_; simp (config := { maxSteps := 2000000 }) (disch := first | omega | rfl) only [sB, Nat.reduceEqDiff]; refine z03 ?_))
    exact z04 rfl (by simp only [sG, Nat.reduceEqDiff] <;> rfl) ⟨true, D0, rfl, hr1, hm0, fun _ => by rw [← hie]; exact ho1, hk1⟩
  have hne : (((u + 1 : Nat) : Int) == (e : Int)) = false := z0x (by omega)
  have hcx := hstop (by omega)
  by_cases h50 : e - a < 50
  · have d50 : decide (((e - a : Nat) : Int) < 50) = true := decide_eq_true (by omega)
    repeat' (first | refine EvC.seq ?_ | refine EvC.scope ?_ | refine EvC.block ?_ | (refine EvC.skip ?_; try simp only [z02]) | (refine EvC.exit ?_) | (refine EvC.ret ?_; try simp only [z01, z00]) | (refine EvC.reg ?_; simp (config := { maxSteps := 2000000 }) (disch := first | omega | rfl) only [sB, Nat.reduceEqDiff, t1, t2, t9, hne, hwl, d50]) | (refine EvC.condT ?_ ?_; simp (config := { maxSteps := 2000000 }) (disch := first | omega | rfl) only [sB, Nat.reduceEqDiff]; refine z03 ?_) | (refine EvC.condF ?_ ?_; simp (config := { maxSteps := 2000000 }) (disch := first | omega | rfl) only [sB, Nat.reduceEqDiff]; refine z03 ?_))
    exact z04 rfl (by simp only [sG, Nat.reduceEqDiff] <;> rfl) ⟨false, D0, rfl, hr1, hm0, (fun h => by cases h), hk1⟩
  have d50 : decide (((e - a : Nat) : Int) < 50) = false := decide_eq_false (by omega)
  (repeat refine EvC.seq ?_); refine EvC.reg ?_; simp (config := { maxSteps := 2000000 }) (disch := first | omega | rfl) only [sB, Nat.reduceEqDiff, t2, t9, hne]
  (repeat refine EvC.seq ?_); refine EvC.condF (by simp (config := { maxSteps := 2000000 }) (disch := first | omega | rfl) only [sB, Nat.reduceEqDiff]) ?_; (try refine EvC.skip ?_); (try simp only [z02, z09])
  (repeat refine EvC.seq ?_); refine EvC.reg ?_; simp (config := { maxSteps := 2000000 }) (disch := first | omega | rfl) only [sB, Nat.reduceEqDiff, t1, t2, hwl, d50]
  (repeat refine EvC.seq ?_); refine EvC.condF (by simp (config := { maxSteps := 2000000 }) (disch := first | omega | rfl) only [sB, Nat.reduceEqDiff]) ?_; (try refine EvC.skip ?_); (try simp only [z02, z09])
  have hwm : IntKind.i64.wrap (((u + 1 : Nat) : Int) - 1) = ((u : Nat) : Int) := by rw [z05 (by omega) (by omega)]; omega
  have hwp : IntKind.i64.wrap (((u + 1 : Nat) : Int) + 1) = ((u + 2 : Nat) : Int) := by rw [z05 (by omega) (by omega)]; omega
  have e1 : ∀ k, k < u → swF (u + 1) u D0 k = D0 k := fun k hk => zbe (by omega) (by omega)
  have m1 : Pm a e D (swF (u + 1) u D0) := hm0.trans (Pm.swap (by omega) (by omega) (by omega) (by omega))
  refine EvC.cut (fun st => ∃ tm H', st = ⟨tm, [], H'⟩ ∧ tm.get 0 = some (.slice (some ⟨b, 0, none⟩) n c) ∧ tm.get 1 = some (.int .i64 (a : Nat)) ∧ tm.get 2 = some (.int .i64 (e : Nat)) ∧ tm.get 3 = some cvB ∧
    tm.get 9 = some (.int .i64 ((u + 1 : Nat) : Int)) ∧ tm.get 10 = some (.int .i64 (s : Nat)) ∧ RowB H' 59 b n (swF (u + 1) u D0) ∧ HK (· = b) H H') ?_ ?_
  · have k1 : u + 1 < n := by omega
    have k2 : u < n := by omega
    have l1 := hr1.load k1
    have l2 := hr1.load k2
    obtain ⟨cells, hg2, hl, he⟩ := hr1.row
    have hbl2 := hk1.wf _ _ hg2
    have le1 : (u + 1) * 7 + 7 ≤ cells.length := by have := mul7 k1; omega
    have le2 : u * 7 + 7 ≤ cells.length := by have := mul7 k2; omega
    have hsw := fun H2 h2 => RowB.swap (H := H') (b := b) (T := 59) hl he k1 k2 H2 h2
    generalize swF (u + 1) u D0 = D1 at *
    generalize hE1 : D0 (u + 1) = E1 at *
    generalize hE2 : D0 u = E2 at *
    have le3 : u * 7 + 7 ≤ (Hb.splice cells ((u + 1) * 7) E2.seven).length := by rw [z0e (vs := E2.seven) le1]; exact le2
    repeat' (first | refine EvC.seq ?_ | refine EvC.scope ?_ | refine EvC.block ?_ | (refine EvC.skip ?_) | (refine EvC.exit ?_) | (refine EvC.ret ?_; try simp only [z01, z00]) | (refine EvC.drw (id := 11) [([(0, 0), (1, 0), (5, 0), (6, 0), (7, 0), (8, 0), (9, 0), (10, 0), (11, 0), (12, 0), (13, 0), (14, 0)], some 15), ([(2, 0), (3, 0), (4, 0), (16, 1)], some 17), ([], none)] ?_ ?_; kernel_rfl; simp (config := { maxSteps := 2000000 }) (disch := first | omega | rfl) only [sV, sD, sB, Nat.reduceEqDiff, Nat.reduceAdd, one, reduceCtorEq, ia57, ld59, st59, t0, t9, hwm, l1, l2, hg2, le1, le3, isAlloc, isRead, reduceCtorEq]))
    exact ⟨_, _, rfl, (by simp only [sG, reduceCtorEq, t0] <;> rfl), (by simp only [sG, Nat.reduceEqDiff, t1] <;> rfl), (by simp only [sG, Nat.reduceEqDiff, t2] <;> rfl), (by simp only [sG, Nat.reduceEqDiff, t3] <;> rfl), (by simp only [sG, Nat.reduceEqDiff, t9] <;> rfl), (by simp only [sG, Nat.reduceEqDiff, t10] <;> rfl), hsw _ (by rw [get_put, if_pos rfl]), hk1.two hbl2 _ _ _⟩
  clear t0 t1 t2 t3 t9 t10
  rintro st ⟨tm, H2, rfl, t0, t1, t2, t3, t9, t10, hr2, hk2⟩
  have ho2 : ∀ p q, a ≤ p → p < q → q ≤ u → p ≠ u → q ≠ u → (swF (u + 1) u D0 p).v ≤ (swF (u + 1) u D0 q).v := fun p q p1 p2 p3 p4 p5 => by
    rw [e1 p (by omega), e1 q (by omega)]; exact ho1 p q p1 p2 (by omega)
  generalize swF (u + 1) u D0 = D1 at *
  clear hr1 hr0 hk1 hk0 ho1 hstop hcx e1 ho0 hm0
  refine EvC.cut (fun st => ∃ tm H' D', st = ⟨tm, [], H'⟩ ∧ tm.get 0 = some (.slice (some ⟨b, 0, none⟩) n c) ∧ tm.get 1 = some (.int .i64 (a : Nat)) ∧ tm.get 2 = some (.int .i64 (e : Nat)) ∧ tm.get 3 = some cvB ∧
    tm.get 9 = some (.int .i64 ((u + 1 : Nat) : Int)) ∧ tm.get 10 = some (.int .i64 (s : Nat)) ∧ RowB H' 59 b n D' ∧ Pm a e D D' ∧ InZ Bnd.v a (u + 1) D' ∧ HK (· = b) H H') ?_ ?_
  · have hwd : IntKind.i64.wrap (((u + 1 : Nat) : Int) - (a : Int)) = ((u + 1 - a : Nat) : Int) := by rw [z05 (by omega) (by omega)]; omega
    by_cases h2 : a < u
    rotate_left
    · have d2 : decide (((u + 1 - a : Nat) : Int) ≥ 2) = false := decide_eq_false (by omega)
      repeat' (first | refine EvC.seq ?_ | refine EvC.scope ?_ | refine EvC.block ?_ | (refine EvC.skip ?_; try simp only [true_and]) | (refine EvC.exit ?_) | (refine EvC.ret ?_; try simp only [z01, z00]) | (refine EvC.reg ?_; simp (config := { maxSteps := 2000000 }) (disch := first | omega | rfl) only [sB, Nat.reduceEqDiff, t1, t9, hwd, d2]) | (refine EvC.condT ?_ ?_; simp (config := { maxSteps := 2000000 }) (disch := first | omega | rfl) only [sB, Nat.reduceEqDiff]; refine z03 ?_) | (refine EvC.condF ?_ ?_; simp (config := { maxSteps := 2000000 }) (disch := first | omega | rfl) only [sB, Nat.reduceEqDiff]; refine z03 ?_))
      exact ⟨_, _, D1, rfl, (by simp only [sG, reduceCtorEq, t0] <;> rfl), (by simp only [sG, Nat.reduceEqDiff, t1] <;> rfl), (by simp only [sG, Nat.reduceEqDiff, t2] <;> rfl), (by simp only [sG, Nat.reduceEqDiff, t3] <;> rfl), (by simp only [sG, Nat.reduceEqDiff, t9] <;> rfl), (by simp only [sG, Nat.reduceEqDiff, t10] <;> rfl), hr2, m1, InZ.few (by omega), hk2⟩
    have d2 : decide (((u + 1 - a : Nat) : Int) ≥ 2) = true := decide_eq_true (by omega)
    (repeat refine EvC.seq ?_); refine EvC.reg ?_; simp (config := { maxSteps := 2000000 }) (disch := first | omega | rfl) only [sB, Nat.reduceEqDiff, t1, t9, hwd, d2]
    (repeat refine EvC.seq ?_); refine EvC.condT (by simp (config := { maxSteps := 2000000 }) (disch := first | omega | rfl) only [sB, Nat.reduceEqDiff]) ?_; (try refine EvC.skip ?_); (try simp only [z02, z09])
    (repeat refine EvC.seq ?_); refine EvC.reg ?_; simp (config := { maxSteps := 2000000 }) (disch := first | omega | rfl) only [sB, Nat.reduceEqDiff, t9, hwm]
    refine EvC.block (EvC.loop (fun k st => ∃ tm H' D', st = ⟨tm, [], H'⟩ ∧ a ≤ k ∧ k ≤ u ∧ tm.get 0 = some (.slice (some ⟨b, 0, none⟩) n c) ∧ tm.get 1 = some (.int .i64 (a : Nat)) ∧ tm.get 2 = some (.int .i64 (e : Nat)) ∧ tm.get 3 = some cvB ∧
      tm.get 9 = some (.int .i64 ((u + 1 : Nat) : Int)) ∧ tm.get 10 = some (.int .i64 (s : Nat)) ∧ tm.get 11 = some (.int .i64 (k : Nat)) ∧ RowB H' 59 b n D' ∧ Pm a e D D' ∧ (∀ p q, a ≤ p → p < q → q ≤ u → p ≠ k → q ≠ k → (D' p).v ≤ (D' q).v) ∧ (∀ q, k < q → q ≤ u → (D' k).v ≤ (D' q).v) ∧ HK (· = b) H H') ?_ u _ ?_)
    · rintro k st ⟨tm, H', D', rfl, hj, hju, t0, t1, t2, t3, t9, t10, t11, hr', hm, ho1, ho2, hk⟩
      by_cases hk0 : k = 0
      · subst hk0
        have dd : decide (((0 : Nat) : Int) ≥ 1) = false := rfl
        repeat' (first | refine EvC.seq ?_ | refine EvC.scope ?_ | refine EvC.block ?_ | (refine EvC.skip ?_) | (refine EvC.exit ?_; try simp only [sB, reduceCtorEq]) | (refine EvC.ret ?_; try simp only [z01, z00]) | (refine EvC.reg ?_; simp (config := { maxSteps := 2000000 }) (disch := first | omega | rfl) only [sB, t11, dd]) | (refine EvC.condT ?_ ?_; simp (config := { maxSteps := 2000000 }) (disch := first | omega | rfl) only [sB, Nat.reduceEqDiff]; refine z03 ?_) | (refine EvC.condF ?_ ?_; simp (config := { maxSteps := 2000000 }) (disch := first | omega | rfl) only [sB, Nat.reduceEqDiff]; refine z03 ?_))
        exact ⟨_, _, D', rfl, (by simp only [sG, reduceCtorEq, t0] <;> rfl), (by simp only [sG, Nat.reduceEqDiff, t1] <;> rfl), (by simp only [sG, Nat.reduceEqDiff, t2] <;> rfl), (by simp only [sG, Nat.reduceEqDiff, t3] <;> rfl), (by simp only [sG, Nat.reduceEqDiff, t9] <;> rfl), (by simp only [sG, Nat.reduceEqDiff, t10] <;> rfl), hr', hm, fun p q p1 p2 p3 => by
          by_cases e1 : p = 0
          · subst e1; exact ho2 q p2 (by omega)
          · exact ho1 p q p1 p2 (by omega) e1 (by omega), hk⟩
      · obtain ⟨j, rfl⟩ : ∃ j, k = j + 1 := ⟨k - 1, by omega⟩
        have dd : decide (((j + 1 : Nat) : Int) ≥ 1) = true := decide_eq_true (by omega)
        have hw2 : IntKind.i64.wrap (((j + 1 : Nat) : Int) - 1) = ((j : Nat) : Int) := by rw [z05 (by omega) (by omega)]; omega
        have k1 : j + 1 < n := by omega
        have k2 : j < n := by omega
        have l1 := hr'.load k1
        have l2 := hr'.load k2
        have hb := hk.bump 13
        repeat' (first | refine EvC.seq ?_ | refine EvC.scope ?_ | refine EvC.block ?_ | (refine EvC.skip ?_; try simp only [z02]) | (refine EvC.exit ?_) | (refine EvC.ret ?_; try simp only [z01, z00]) | (refine EvC.reg ?_; simp (config := { maxSteps := 2000000 }) (disch := first | omega | rfl) only [sB, t11, dd]) | (refine EvC.drw (id := 16) [([(0, 0), (1, 0), (2, 0), (3, 0), (4, 0), (5, 0), (6, 0), (7, 0), (8, 0), (9, 0)], some 10), ([(11, 1), (12, 1)], none)] ?_ ?_; kernel_rfl; simp (config := { maxSteps := 2000000 }) (disch := first | omega | rfl) only [sD, sB, Nat.reduceEqDiff, Nat.reduceAdd, reduceCtorEq, ia57, ld59, t0, t3, t11, hw2, l1, l2, z0o, z0f hg, isAlloc, isRead, reduceCtorEq]) | (refine EvC.condT ?_ ?_; simp (config := { maxSteps := 2000000 }) (disch := first | omega | rfl) only [sB, Nat.reduceEqDiff]; refine z03 ?_))
        obtain ⟨cells0, hg0, -, -⟩ := hr'.row
        have hbl := hk.wf _ _ hg0
        refine (z1t hb.wf).mono ?_
        rintro v H2 ⟨rfl, hx2⟩
        have hk2 := hb.hxs hx2
        have r2 := hr'.heap (H' := H2) (by rw [hx2.keep b (Nat.lt_add_right _ hbl)]; rfl)
        by_cases hc : (D' (j + 1)).v < (D' j).v
        · have hja : a ≤ j := by
            rcases Nat.lt_or_ge j a with q | q
            · have q' : a = j + 1 := by omega
              have := low' D' hm (by omega) (j + 1) (by omega) (by omega)
              rw [show a - 1 = j by omega] at this
              omega
            · exact q
          have l1 := r2.load k1
          have l2 := r2.load k2
          obtain ⟨cells, hg2, hl, he⟩ := r2.row
          have hbl2 := hk2.wf _ _ hg2
          have le1 : (j + 1) * 7 + 7 ≤ cells.length := by have := mul7 k1; omega
          have le2 : j * 7 + 7 ≤ cells.length := by have := mul7 k2; omega
          have hsw := fun H2 h2 => RowB.swap (H := H') (b := b) (T := 59) hl he k1 k2 H2 h2
          have ms := Pm.swap (a := a) (b := e) (i := j) (j := j + 1) (D := D') (by omega) (by omega) (by omega) (by omega)
          rw [zef] at hsw
          have o1 : ∀ p q, a ≤ p → p < q → q ≤ u → p ≠ j → q ≠ j → (swF j (j + 1) D' p).v ≤ (swF j (j + 1) D' q).v := fun p q p1 p2 p3 p4 p5 => by
            unfold swF
            rw [if_neg p4, if_neg p5]
            by_cases e1 : p = j + 1
            · rw [if_pos e1, if_neg (by omega)]; exact ho1 j q (by omega) (by omega) p3 (by omega) (by omega)
            · rw [if_neg e1]
              by_cases e2 : q = j + 1
              · rw [if_pos e2]; exact ho1 p j p1 (by omega) (by omega) e1 (by omega)
              · rw [if_neg e2]; exact ho1 p q p1 p2 p3 e1 e2
          have o2 : ∀ q, j < q → q ≤ u → (swF j (j + 1) D' j).v ≤ (swF j (j + 1) D' q).v := fun q q1 q2 => by
            unfold swF
            rw [if_pos rfl, if_neg (by omega)]
            by_cases e2 : q = j + 1
            · rw [if_pos e2]; omega
            · rw [if_neg e2]; exact ho2 q (by omega) q2
          clear ho1 ho2
          generalize swF j (j + 1) D' = D2 at *
          generalize hE1 : D' (j + 1) = E1 at *
          generalize hE2 : D' j = E2 at *
          have le3 : j * 7 + 7 ≤ (Hb.splice cells ((j + 1) * 7) E2.seven).length := by rw [z0e (vs := E2.seven) le1]; exact le2
          repeat' (first | refine EvC.seq ?_ | refine EvC.scope ?_ | refine EvC.block ?_ | (refine EvC.skip ?_; try simp only [z02]) | (refine EvC.exit ?_) | (refine EvC.ret ?_; try simp only [z01, z00]) | (refine EvC.reg ?_; simp (config := { maxSteps := 2000000 }) (disch := first | omega | rfl) only [sB, Nat.reduceEqDiff, t11, hw2]) | (refine EvC.drw (id := 17) [([(0, 0), (1, 0), (5, 0), (6, 0), (7, 0), (8, 0), (9, 0), (10, 0), (11, 0), (12, 0), (13, 0), (14, 0)], some 15), ([(2, 0), (3, 0), (4, 0), (16, 1)], some 17), ([], none)] ?_ ?_; kernel_rfl; simp (config := { maxSteps := 2000000 }) (disch := first | omega | rfl) only [sV, sD, sB, Nat.reduceEqDiff, Nat.reduceAdd, one, reduceCtorEq, ia57, ld59, st59, t0, t11, hw2, l1, l2, hg2, le1, le3, isAlloc, isRead, reduceCtorEq]) | (refine z0h ?_; simp (config := { maxSteps := 2000000 }) (disch := first | omega | rfl) only [sD, sB, Nat.reduceEqDiff, cz_t hc, Bool.not_true, isAlloc, isRead]) | (refine EvC.condT ?_ ?_; simp (config := { maxSteps := 2000000 }) (disch := first | omega | rfl) only [sB, Nat.reduceEqDiff]; refine z03 ?_) | (refine EvC.condF ?_ ?_; simp (config := { maxSteps := 2000000 }) (disch := first | omega | rfl) only [sB, Nat.reduceEqDiff]; refine z03 ?_))
          exact ⟨j, by omega, _, _, D2, rfl, hja, by omega, (by simp only [sG, reduceCtorEq, t0] <;> rfl), (by simp only [sG, Nat.reduceEqDiff, t1] <;> rfl), (by simp only [sG, Nat.reduceEqDiff, t2] <;> rfl), (by simp only [sG, Nat.reduceEqDiff, t3] <;> rfl), (by simp only [sG, Nat.reduceEqDiff, t9] <;> rfl), (by simp only [sG, Nat.reduceEqDiff, t10] <;> rfl), (by simp only [sG, Nat.reduceEqDiff] <;> rfl), hsw _ (by rw [get_put, if_pos rfl]), hm.trans ms, o1, o2, hk2.two hbl2 _ _ _⟩
        · repeat' (first | refine EvC.seq ?_ | refine EvC.scope ?_ | refine EvC.block ?_ | (refine EvC.skip ?_) | (refine EvC.exit ?_; try simp only [sB, Nat.reduceEqDiff, reduceCtorEq]) | (refine EvC.ret ?_; try simp only [z01, z00]) | (refine z0h ?_; simp (config := { maxSteps := 2000000 }) (disch := first | omega | rfl) only [sD, sB, Nat.reduceEqDiff, cz_f hc, Bool.not_false, isAlloc, isRead]) | (refine EvC.condT ?_ ?_; simp (config := { maxSteps := 2000000 }) (disch := first | omega | rfl) only [sB, Nat.reduceEqDiff]; refine z03 ?_))
          exact ⟨_, _, D', rfl, (by simp only [sG, reduceCtorEq, t0] <;> rfl), (by simp only [sG, Nat.reduceEqDiff, t1] <;> rfl), (by simp only [sG, Nat.reduceEqDiff, t2] <;> rfl), (by simp only [sG, Nat.reduceEqDiff, t3] <;> rfl), (by simp only [sG, Nat.reduceEqDiff, t9] <;> rfl), (by simp only [sG, Nat.reduceEqDiff, t10] <;> rfl), r2, hm, fun p q p1 p2 p3 => by
            by_cases e1 : p = j + 1
            · subst e1; exact ho2 q p2 (by omega)
            · by_cases e2 : q = j + 1
              · subst e2
                by_cases e3 : p = j
                · subst e3; omega
                · exact Int.le_trans (ho1 p j p1 (by omega) (by omega) e1 (by omega)) (by omega)
              · exact ho1 p q p1 p2 (by omega) e1 e2, hk2⟩
    · exact ⟨_, _, D1, rfl, by omega, Nat.le_refl _, (by simp only [sG, reduceCtorEq, t0] <;> rfl), (by simp only [sG, Nat.reduceEqDiff, t1] <;> rfl), (by simp only [sG, Nat.reduceEqDiff, t2] <;> rfl), (by simp only [sG, Nat.reduceEqDiff, t3] <;> rfl), (by simp only [sG, Nat.reduceEqDiff, t9] <;> rfl), (by simp only [sG, Nat.reduceEqDiff, t10] <;> rfl), (by simp only [sG, Nat.reduceEqDiff] <;> rfl), hr2, m1, ho2, fun q q1 q2 => by omega, hk2⟩
  clear t0 t1 t2 t3 t9 t10 hr2 hk2 m1 ho2
  rintro st ⟨tm, H3, D3, rfl, t0, t1, t2, t3, t9, t10, hr3, m3, ho3, hk3⟩
  refine EvC.meet (fun st => ∃ tm H' D', st = ⟨tm, [], H'⟩ ∧ tm.get 0 = some (.slice (some ⟨b, 0, none⟩) n c) ∧ tm.get 1 = some (.int .i64 (a : Nat)) ∧ tm.get 2 = some (.int .i64 (e : Nat)) ∧ tm.get 3 = some cvB ∧
    tm.get 9 = some (.int .i64 ((u + 1 : Nat) : Int)) ∧ tm.get 10 = some (.int .i64 (s : Nat)) ∧ RowB H' 59 b n D' ∧ Pm a e D D' ∧ InZ Bnd.v a (u + 1) D' ∧ HK (· = b) H H') ?_ ?_
  · have hwd : IntKind.i64.wrap ((e : Int) - ((u + 1 : Nat) : Int)) = ((e - (u + 1) : Nat) : Int) := by rw [z05 (by omega) (by omega)]; omega
    by_cases h2 : u + 2 < e
    rotate_left
    · have d2 : decide (((e - (u + 1) : Nat) : Int) ≥ 2) = false := decide_eq_false (by omega)
      repeat' (first | refine EvC.seq ?_ | refine EvC.scope ?_ | refine EvC.block ?_ | (refine EvC.skip ?_; try simp only [true_and]) | (refine EvC.exit ?_) | (refine EvC.ret ?_; try simp only [z01, z00]) | (refine EvC.reg ?_; simp (config := { maxSteps := 2000000 }) (disch := first | omega | rfl) only [sB, Nat.reduceEqDiff, t2, t9, hwd, d2]) | (refine EvC.condT ?_ ?_; simp (config := { maxSteps := 2000000 }) (disch := first | omega | rfl) only [sB, Nat.reduceEqDiff]; refine z03 ?_) | (refine EvC.condF ?_ ?_; simp (config := { maxSteps := 2000000 }) (disch := first | omega | rfl) only [sB, Nat.reduceEqDiff]; refine z03 ?_))
      exact ⟨_, _, D3, rfl, (by simp only [sG, reduceCtorEq, t0] <;> rfl), (by simp only [sG, Nat.reduceEqDiff, t1] <;> rfl), (by simp only [sG, Nat.reduceEqDiff, t2] <;> rfl), (by simp only [sG, Nat.reduceEqDiff, t3] <;> rfl), (by simp only [sG, Nat.reduceEqDiff, t9] <;> rfl), (by simp only [sG, Nat.reduceEqDiff, t10] <;> rfl), hr3, m3, ho3, hk3⟩
    have d2 : decide (((e - (u + 1) : Nat) : Int) ≥ 2) = true := decide_eq_true (by omega)
    (repeat refine EvC.seq ?_); refine EvC.reg ?_; simp (config := { maxSteps := 2000000 }) (disch := first | omega | rfl) only [sB, Nat.reduceEqDiff, t2, t9, hwd, d2]
    (repeat refine EvC.seq ?_); refine EvC.condT (by simp (config := { maxSteps := 2000000 }) (disch := first | omega | rfl) only [sB, Nat.reduceEqDiff]) ?_; (try refine EvC.skip ?_); (try simp only [z02, z09])
    (repeat refine EvC.seq ?_); refine EvC.reg ?_; simp (config := { maxSteps := 2000000 }) (disch := first | omega | rfl) only [sB, Nat.reduceEqDiff, t9, hwp]
    refine EvC.block (EvC.loop (fun k st => ∃ tm H' j D', st = ⟨tm, [], H'⟩ ∧ k = e - j ∧ u + 1 < j ∧ j ≤ e ∧ tm.get 0 = some (.slice (some ⟨b, 0, none⟩) n c) ∧ tm.get 1 = some (.int .i64 (a : Nat)) ∧ tm.get 2 = some (.int .i64 (e : Nat)) ∧ tm.get 3 = some cvB ∧
      tm.get 9 = some (.int .i64 ((u + 1 : Nat) : Int)) ∧ tm.get 10 = some (.int .i64 (s : Nat)) ∧ tm.get 12 = some (.int .i64 (j : Nat)) ∧ RowB H' 59 b n D' ∧ Pm a e D D' ∧ InZ Bnd.v a (u + 1) D' ∧ HK (· = b) H H') ?_ (e - (u + 2)) _ ?_)
    · rintro k st ⟨tm, H', j, D', rfl, rfl, hj, hje, t0, t1, t2, t3, t9, t10, t12, hr', hm, ho1, hk⟩
      by_cases hlt : j < e
      rotate_left
      · repeat' (first | refine EvC.seq ?_ | refine EvC.scope ?_ | refine EvC.block ?_ | (refine EvC.skip ?_) | (refine EvC.exit ?_; try simp only [sB, reduceCtorEq]) | (refine EvC.ret ?_; try simp only [z01, z00]) | (refine EvC.reg ?_; simp (config := { maxSteps := 2000000 }) (disch := first | omega | rfl) only [sB, Nat.reduceEqDiff, t2, t12, decn hlt]) | (refine EvC.condT ?_ ?_; simp (config := { maxSteps := 2000000 }) (disch := first | omega | rfl) only [sB, Nat.reduceEqDiff]; refine z03 ?_) | (refine EvC.condF ?_ ?_; simp (config := { maxSteps := 2000000 }) (disch := first | omega | rfl) only [sB, Nat.reduceEqDiff]; refine z03 ?_))
        exact ⟨_, _, D', rfl, (by simp only [sG, reduceCtorEq, t0] <;> rfl), (by simp only [sG, Nat.reduceEqDiff, t1] <;> rfl), (by simp only [sG, Nat.reduceEqDiff, t2] <;> rfl), (by simp only [sG, Nat.reduceEqDiff, t3] <;> rfl), (by simp only [sG, Nat.reduceEqDiff, t9] <;> rfl), (by simp only [sG, Nat.reduceEqDiff, t10] <;> rfl), hr', hm, ho1, hk⟩
      obtain ⟨j, rfl⟩ : ∃ w, j = w + 1 := ⟨j - 1, by omega⟩
      have hw2 : IntKind.i64.wrap (((j + 1 : Nat) : Int) - 1) = ((j : Nat) : Int) := by rw [z05 (by omega) (by omega)]; omega
      have hw3 : IntKind.i64.wrap (((j + 1 : Nat) : Int) + 1) = ((j + 1 + 1 : Nat) : Int) := by rw [z05 (by omega) (by omega)]; omega
      have k1 : j + 1 < n := by omega
      have k2 : j < n := by omega
      have l1 := hr'.load k1
      have l2 := hr'.load k2
      have hb := hk.bump 13
      repeat' (first | refine EvC.seq ?_ | refine EvC.scope ?_ | refine EvC.block ?_ | (refine EvC.skip ?_; try simp only [z02]) | (refine EvC.exit ?_) | (refine EvC.ret ?_; try simp only [z01, z00]) | (refine EvC.reg ?_; simp (config := { maxSteps := 2000000 }) (disch := first | omega | rfl) only [sB, Nat.reduceEqDiff, t2, t12, decl hlt]) | (refine EvC.drw (id := 22) [([(0, 0), (1, 0), (2, 0), (3, 0), (4, 0), (5, 0), (6, 0), (7, 0), (8, 0), (9, 0)], some 10), ([(11, 1), (12, 1)], none)] ?_ ?_; kernel_rfl; simp (config := { maxSteps := 2000000 }) (disch := first | omega | rfl) only [sD, sB, Nat.reduceEqDiff, Nat.reduceAdd, reduceCtorEq, ia57, ld59, t0, t3, t12, hw2, l1, l2, z0o, z0f hg, isAlloc, isRead, reduceCtorEq]) | (refine EvC.condT ?_ ?_; simp (config := { maxSteps := 2000000 }) (disch := first | omega | rfl) only [sB, Nat.reduceEqDiff]; refine z03 ?_))
      obtain ⟨cells0, hg0, -, -⟩ := hr'.row
      have hbl := hk.wf _ _ hg0
      refine (z1t hb.wf).mono ?_
      rintro v H2 ⟨rfl, hx2⟩
      have hk2 := hb.hxs hx2
      have r2 := hr'.heap (H' := H2) (by rw [hx2.keep b (Nat.lt_add_right _ hbl)]; rfl)
      by_cases hc : (D' (j + 1)).v < (D' j).v
      · have l1 := r2.load k1
        have l2 := r2.load k2
        obtain ⟨cells, hg2, hl, he⟩ := r2.row
        have hbl2 := hk2.wf _ _ hg2
        have le1 : (j + 1) * 7 + 7 ≤ cells.length := by have := mul7 k1; omega
        have le2 : j * 7 + 7 ≤ cells.length := by have := mul7 k2; omega
        have hsw := fun H2 h2 => RowB.swap (H := H') (b := b) (T := 59) hl he k1 k2 H2 h2
        have ms := Pm.swap (a := a) (b := e) (i := j + 1) (j := j) (D := D') (by omega) (by omega) (by omega) (by omega)
        have o1 : InZ Bnd.v a (u + 1) (swF (j + 1) j D') := fun p q p1 p2 p3 => by
          rw [zbe (by omega) (by omega), zbe (by omega) (by omega)]; exact ho1 p q p1 p2 p3
        generalize swF (j + 1) j D' = D2 at *
        generalize hE1 : D' (j + 1) = E1 at *
        generalize hE2 : D' j = E2 at *
        have le3 : j * 7 + 7 ≤ (Hb.splice cells ((j + 1) * 7) E2.seven).length := by rw [z0e (vs := E2.seven) le1]; exact le2
        repeat' (first | refine EvC.seq ?_ | refine EvC.scope ?_ | refine EvC.block ?_ | (refine EvC.skip ?_; try simp only [z02]) | (refine EvC.exit ?_) | (refine EvC.ret ?_; try simp only [z01, z00]) | (refine EvC.reg ?_; simp (config := { maxSteps := 2000000 }) (disch := first | omega | rfl) only [sB, Nat.reduceEqDiff, t12, hw3]) | (refine EvC.drw (id := 23) [([(0, 0), (1, 0), (5, 0), (6, 0), (7, 0), (8, 0), (9, 0), (10, 0), (11, 0), (12, 0), (13, 0), (14, 0)], some 15), ([(2, 0), (3, 0), (4, 0), (16, 1)], some 17), ([], none)] ?_ ?_; kernel_rfl; simp (config := { maxSteps := 2000000 }) (disch := first | omega | rfl) only [sV, sD, sB, Nat.reduceEqDiff, Nat.reduceAdd, one, reduceCtorEq, ia57, ld59, st59, t0, t12, hw2, l1, l2, hg2, le1, le3, isAlloc, isRead, reduceCtorEq]) | (refine z0h ?_; simp (config := { maxSteps := 2000000 }) (disch := first | omega | rfl) only [sD, sB, Nat.reduceEqDiff, cz_t hc, Bool.not_true, isAlloc, isRead]) | (refine EvC.condT ?_ ?_; simp (config := { maxSteps := 2000000 }) (disch := first | omega | rfl) only [sB, Nat.reduceEqDiff]; refine z03 ?_) | (refine EvC.condF ?_ ?_; simp (config := { maxSteps := 2000000 }) (disch := first | omega | rfl) only [sB, Nat.reduceEqDiff]; refine z03 ?_))
        exact ⟨e - (j + 1 + 1), by omega, _, _, j + 1 + 1, D2, rfl, rfl, by omega, by omega, (by simp only [sG, reduceCtorEq, t0] <;> rfl), (by simp only [sG, Nat.reduceEqDiff, t1] <;> rfl), (by simp only [sG, Nat.reduceEqDiff, t2] <;> rfl), (by simp only [sG, Nat.reduceEqDiff, t3] <;> rfl), (by simp only [sG, Nat.reduceEqDiff, t9] <;> rfl), (by simp only [sG, Nat.reduceEqDiff, t10] <;> rfl), (by simp only [sG, Nat.reduceEqDiff] <;> rfl), hsw _ (by rw [get_put, if_pos rfl]), hm.trans ms, o1, hk2.two hbl2 _ _ _⟩
      · repeat' (first | refine EvC.seq ?_ | refine EvC.scope ?_ | refine EvC.block ?_ | (refine EvC.skip ?_) | (refine EvC.exit ?_; try simp only [sB, Nat.reduceEqDiff, reduceCtorEq]) | (refine EvC.ret ?_; try simp only [z01, z00]) | (refine z0h ?_; simp (config := { maxSteps := 2000000 }) (disch := first | omega | rfl) only [sD, sB, Nat.reduceEqDiff, cz_f hc, Bool.not_false, isAlloc, isRead]) | (refine EvC.condT ?_ ?_; simp (config := { maxSteps := 2000000 }) (disch := first | omega | rfl) only [sB, Nat.reduceEqDiff]; refine z03 ?_))
        exact ⟨_, _, D', rfl, (by simp only [sG, reduceCtorEq, t0] <;> rfl), (by simp only [sG, Nat.reduceEqDiff, t1] <;> rfl), (by simp only [sG, Nat.reduceEqDiff, t2] <;> rfl), (by simp only [sG, Nat.reduceEqDiff, t3] <;> rfl), (by simp only [sG, Nat.reduceEqDiff, t9] <;> rfl), (by simp only [sG, Nat.reduceEqDiff, t10] <;> rfl), r2, hm, ho1, hk2⟩
    · exact ⟨_, _, u + 2, D3, rfl, rfl, by omega, by omega, (by simp only [sG, reduceCtorEq, t0] <;> rfl), (by simp only [sG, Nat.reduceEqDiff, t1] <;> rfl), (by simp only [sG, Nat.reduceEqDiff, t2] <;> rfl), (by simp only [sG, Nat.reduceEqDiff, t3] <;> rfl), (by simp only [sG, Nat.reduceEqDiff, t9] <;> rfl), (by simp only [sG, Nat.reduceEqDiff, t10] <;> rfl), (by simp only [sG, Nat.reduceEqDiff] <;> rfl), hr3, m3, ho3, hk3⟩
  clear t0 t1 t2 t3 t9 t10
  rintro st ⟨tm, H4, D4, rfl, t0, t1, t2, t3, t9, t10, hr4, m4, ho4, hk4⟩
  have hws : IntKind.i64.wrap ((s : Int) + 1) = ((s + 1 : Nat) : Int) := by rw [z05 (by omega) (by omega)]; omega
  try simp (config := { maxSteps := 2000000 }) (disch := first | omega | rfl) only [sA]
  repeat' (first | refine EvC.seq ?_ | refine EvC.scope ?_ | refine EvC.block ?_ | (refine EvC.skip ?_) | (refine EvC.exit ?_) | (refine EvC.ret ?_; try simp only [z01, z00]) | (refine EvC.reg ?_; simp (config := { maxSteps := 2000000 }) (disch := first | omega | rfl) only [sB, Nat.reduceEqDiff, t10, hws]))
  exact ⟨5 - (s + 1), by omega, _, _, s + 1, u + 1, D4, rfl, rfl, by omega, by omega, by omega, (by simp only [sG, reduceCtorEq, t0] <;> rfl), (by simp only [sG, Nat.reduceEqDiff, t1] <;> rfl), (by simp only [sG, Nat.reduceEqDiff, t2] <;> rfl), (by simp only [sG, Nat.reduceEqDiff, t3] <;> rfl), (by simp only [sG, Nat.reduceEqDiff, t9] <;> rfl), (by simp only [sG, Nat.reduceEqDiff] <;> rfl), hr4, m4, ho4, hk4⟩
end Go.Proofs.YtlllbkjiadcloaaDoor.hb
end

-- Pd8
section
namespace Go.Hb
open Go Go.RowKit
theorem zcs {P : Program} {H : Heap} {t : TypeId} {x y : Operand} {k' : IntKind} {a : Nat} : dBin P .shr t x y (.int .u64 (a : Int)) (.int k' 16) H = some (.val (.int .u64 ((a / 65536 : Nat) : Int)) H) := by
  rw [bShr (by omega)]
  show some (Dr.val (.int .u64 ((a : Int).fdiv ((65536 : Nat) : Int))) H) = _
  rw [← Int.ofNat_fdiv]
theorem zfr {P : Program} {H : Heap} {t : TypeId} {x y : Operand} {k' : IntKind} {a : Nat} : dBin P .shr t x y (.int .u64 (a : Int)) (.int k' 8) H = some (.val (.int .u64 ((a / 256 : Nat) : Int)) H) := by
  rw [bShr (by omega)]
  show some (Dr.val (.int .u64 ((a : Int).fdiv ((256 : Nat) : Int))) H) = _
  rw [← Int.ofNat_fdiv]
end Go.Hb
namespace Go.Proofs.YtlllbkjiadcloaaDoor.hb
open Go Go.RowKit Go.Hb
variable {ok : Ok}
set_option maxRecDepth 10000
attribute [local irreducible] LX LG EL STG SOP SGO SGD SAL SRD SEF SEG SLK SCK ES
theorem zk4 {x : Nat} (hx : x < 16777216) {H : Heap} : EvF Tryd.prog okT 122 [.int .u64 (x : Int)] H fun v H' => v = .int .i64 (nbits x : Int) ∧ H' = H := by
  refine EvF.enter rfl Tryd.func122 (by decide) rfl ?_
  have d1 : decide ((x : Int) ≥ 4294967296) = false := decide_eq_false (by omega)
  by_cases h1 : 65536 ≤ x
  · have e1 : nbits x = nbits (x / 65536) + 16 := z56 (e := 16) h1
    have d2 : decide ((x : Int) ≥ 65536) = true := decide_eq_true (by omega)
    have d3 : decide (((x / 65536 : Nat) : Int) ≥ 256) = false := decide_eq_false (by omega)
    repeat' (first | refine EvC.seq ?_ | refine EvC.scope ?_ | refine EvC.block ?_ | (refine EvC.skip ?_; try simp only [z02]) | (refine EvC.exit ?_) | (refine EvC.ret ?_; try simp only [z01, z00]) | (refine EvC.reg ?_; simp (config := { maxSteps := 2000000 }) (disch := first | omega | rfl) only [sB, initTm, Nat.reduceEqDiff, reduceCtorEq, zgy, d1, d2, d3, zcs, z05, z3s]) | (refine EvC.condT ?_ ?_; simp (config := { maxSteps := 2000000 }) (disch := first | omega | rfl) only [sB, Nat.reduceEqDiff, reduceCtorEq]; refine z03 ?_) | (refine EvC.condF ?_ ?_; simp (config := { maxSteps := 2000000 }) (disch := first | omega | rfl) only [sB, Nat.reduceEqDiff, reduceCtorEq]; refine z03 ?_))
    rw [z1l Tryd.underlying9 (show x / 65536 < _ from by show _ < 256; omega)]
    generalize hB : byteAt _ (x / 65536) = B
    have hB' : B = nbits (x / 65536) := by rw [← hB]; exact z78 (by decide +kernel) (by omega)
    have hl := z2n (n := x / 65536) (by omega)
    repeat' (first | refine EvC.seq ?_ | refine EvC.scope ?_ | refine EvC.block ?_ | (refine EvC.skip ?_) | (refine EvC.exit ?_) | (refine EvC.ret ?_; try simp only [z01, z00]) | (refine z0t ?_; simp (config := { maxSteps := 2000000 }) (disch := first | omega | rfl) only [sB, Nat.reduceEqDiff, reduceCtorEq, zao, z05]))
    exact z04 rfl (by simp only [sB, Nat.reduceEqDiff, reduceCtorEq] <;> rfl) ⟨by simp only [Value.int.injEq, true_and]; omega, rfl⟩
  · have d2 : decide ((x : Int) ≥ 65536) = false := decide_eq_false (by omega)
    by_cases h2 : 256 ≤ x
    · have e2 : nbits x = nbits (x / 256) + 8 := z56 (e := 8) h2
      have d3 : decide ((x : Int) ≥ 256) = true := decide_eq_true (by omega)
      repeat' (first | refine EvC.seq ?_ | refine EvC.scope ?_ | refine EvC.block ?_ | (refine EvC.skip ?_; try simp only [z02]) | (refine EvC.exit ?_) | (refine EvC.ret ?_; try simp only [z01, z00]) | (refine EvC.reg ?_; simp (config := { maxSteps := 2000000 }) (disch := first | omega | rfl) only [sB, initTm, Nat.reduceEqDiff, reduceCtorEq, zgy, d1, d2, d3, zfr, z05, z3s]) | (refine EvC.condT ?_ ?_; simp (config := { maxSteps := 2000000 }) (disch := first | omega | rfl) only [sB, Nat.reduceEqDiff, reduceCtorEq]; refine z03 ?_) | (refine EvC.condF ?_ ?_; simp (config := { maxSteps := 2000000 }) (disch := first | omega | rfl) only [sB, Nat.reduceEqDiff, reduceCtorEq]; refine z03 ?_))
      rw [z1l Tryd.underlying9 (show x / 256 < _ from by show _ < 256; omega)]
      generalize hB : byteAt _ (x / 256) = B
      have hB' : B = nbits (x / 256) := by rw [← hB]; exact z78 (by decide +kernel) (by omega)
      have hl := z2n (n := x / 256) (by omega)
      repeat' (first | refine EvC.seq ?_ | refine EvC.scope ?_ | refine EvC.block ?_ | (refine EvC.skip ?_) | (refine EvC.exit ?_) | (refine EvC.ret ?_; try simp only [z01, z00]) | (refine z0t ?_; simp (config := { maxSteps := 2000000 }) (disch := first | omega | rfl) only [sB, Nat.reduceEqDiff, reduceCtorEq, zao, z05]))
      exact z04 rfl (by simp only [sB, Nat.reduceEqDiff, reduceCtorEq] <;> rfl) ⟨by simp only [Value.int.injEq, true_and]; omega, rfl⟩
    · have d3 : decide ((x : Int) ≥ 256) = false := decide_eq_false (by omega)
      repeat' (first | refine EvC.seq ?_ | refine EvC.scope ?_ | refine EvC.block ?_ | (refine EvC.skip ?_; try simp only [z02]) | (refine EvC.exit ?_) | (refine EvC.ret ?_; try simp only [z01, z00]) | (refine EvC.reg ?_; simp (config := { maxSteps := 2000000 }) (disch := first | omega | rfl) only [sB, initTm, Nat.reduceEqDiff, reduceCtorEq, zgy, d1, d2, d3, z3s]) | (refine EvC.condT ?_ ?_; simp (config := { maxSteps := 2000000 }) (disch := first | omega | rfl) only [sB, Nat.reduceEqDiff, reduceCtorEq]; refine z03 ?_) | (refine EvC.condF ?_ ?_; simp (config := { maxSteps := 2000000 }) (disch := first | omega | rfl) only [sB, Nat.reduceEqDiff, reduceCtorEq]; refine z03 ?_))
      rw [z1l Tryd.underlying9 (show x < _ from by show _ < 256; omega)]
      generalize hB : byteAt _ x = B
      have hB' : B = nbits x := by rw [← hB]; exact z78 (by decide +kernel) (by omega)
      have hl := z2n (n := x) (by omega)
      repeat' (first | refine EvC.seq ?_ | refine EvC.scope ?_ | refine EvC.block ?_ | (refine EvC.skip ?_) | (refine EvC.exit ?_) | (refine EvC.ret ?_; try simp only [z01, z00]) | (refine z0t ?_; simp (config := { maxSteps := 2000000 }) (disch := first | omega | rfl) only [sB, Nat.reduceEqDiff, reduceCtorEq, zao, z05]))
      exact z04 rfl (by simp only [sB, Nat.reduceEqDiff, reduceCtorEq] <;> rfl) ⟨by simp only [Value.int.injEq, true_and]; omega, rfl⟩
theorem zi6 {x : Nat} (hx : x < 16777216) {H : Heap} : EvF Tryd.prog okT 98 [.int .u64 (x : Int)] H fun v H' => v = .int .i64 (nbits x : Int) ∧ H' = H := by
  refine EvF.enter rfl Tryd.func98 (by decide) rfl ?_
  repeat' (first | refine EvC.seq ?_ | refine EvC.scope ?_ | refine EvC.block ?_ | (refine EvC.skip ?_; try simp only [z02]) | (refine EvC.exit ?_) | (refine EvC.ret ?_; try simp only [z01, z00]) | (refine EvC.reg ?_; simp (config := { maxSteps := 2000000 }) (disch := first | omega | rfl) only [sB, initTm, Nat.reduceEqDiff, reduceCtorEq, zom]) | (refine EvC.condT ?_ ?_; simp (config := { maxSteps := 2000000 }) (disch := first | omega | rfl) only [z66]; refine z03 ?_) | (refine EvC.condF ?_ ?_; simp (config := { maxSteps := 2000000 }) (disch := first | omega | rfl) only [z66]; refine z03 ?_))
  refine (zk4 hx).mono ?_
  rintro v H2 ⟨rfl, rfl⟩
  repeat' (first | refine EvC.seq ?_ | refine EvC.scope ?_ | refine EvC.block ?_ | (refine EvC.skip ?_) | (refine EvC.exit ?_) | (refine EvC.ret ?_; try simp only [z01, z00]))
  exact z04 rfl (by simp only [sG, Nat.reduceEqDiff, reduceCtorEq] <;> rfl) ⟨rfl, rfl⟩
theorem zi7 {x : Nat} (h0 : 0 < x) : x < 2 ^ nbits x ∧ 2 ^ nbits x ≤ 2 * x := by
  rw [nbits, if_neg (by omega)]
  refine ⟨Nat.lt_log2_self, ?_⟩
  have := Nat.log2_self_le (n := x) (by omega)
  rw [Nat.pow_succ]; omega
theorem zfs {x : Nat} (h0 : 0 < x) (hx : x < 16777216) {H : Heap} : EvF Tryd.prog okT 132 [.int .i64 (x : Int)] H fun v H' => ∃ m : Nat, v = .int .u64 (m : Int) ∧ x < m ∧ m ≤ 2 * x ∧ H' = H := by
  refine EvF.enter rfl Tryd.func132 (by decide) rfl ?_
  have hw1 : IntKind.u64.wrap (x : Int) = (x : Int) := wrap_u64 (by omega) (by omega)
  repeat' (first | refine EvC.seq ?_ | refine EvC.scope ?_ | refine EvC.block ?_ | (refine EvC.skip ?_) | (refine EvC.exit ?_) | (refine EvC.ret ?_; try simp only [z01, z00]) | (refine EvC.reg ?_; simp (config := { maxSteps := 2000000 }) (disch := first | omega | rfl) only [sB, initTm, Nat.reduceEqDiff, reduceCtorEq, zca, cl98, hw1]))
  refine (zi6 hx).mono ?_
  rintro v H2 ⟨rfl, rfl⟩
  have hp := zi7 h0
  have hn : nbits x ≤ 24 := by
    rcases Nat.lt_or_ge 24 (nbits x) with q | q
    · have := (z9c 24).1 q; omega
    · exact q
  have hs : IntKind.u64.wrap (1 * 2 ^ (min ((nbits x : Nat) : Int).toNat IntKind.u64.bits)) = ((2 ^ nbits x : Nat) : Int) := by
    rw [Int.toNat_natCast, Nat.min_eq_left (by show nbits x ≤ 64; omega), Int.one_mul]
    have : ((2 : Int) ^ nbits x) = ((2 ^ nbits x : Nat) : Int) := by rw [Int.natCast_pow]; rfl
    rw [this, wrap_u64 (by omega) (by omega)]
  rw [Int.toNat_natCast] at hs
  repeat' (first | refine EvC.seq ?_ | refine EvC.scope ?_ | refine EvC.block ?_ | (refine EvC.skip ?_) | (refine EvC.exit ?_) | (refine EvC.ret ?_; try simp only [z01, z00]) | (refine z0t ?_; simp (config := { maxSteps := 2000000 }) (disch := first | omega | rfl) only [sB, Nat.reduceEqDiff, reduceCtorEq, bShl, hs]))
  exact z04 rfl (by simp only [sG, Nat.reduceEqDiff, reduceCtorEq] <;> rfl) ⟨_, rfl, hp.1, hp.2, rfl⟩
set_option maxHeartbeats 4000000 in
theorem zn4 {s : Nat} {z : Int} {H : Heap} (hs : H.get s = some (.row [.int .u64 z] 153)) (hw : H.wf) : EvF Tryd.prog okT 133 [.pointer (some ⟨s, 0, none⟩)] H fun v H' =>
    ∃ y : Int, v = .int .u64 y ∧ H'.get s = some (.row [.int .u64 y] 153) ∧ HK (· = s) H H' := by
  refine EvF.enter rfl Tryd.func133 (by decide) rfl ?_
  have step : ∀ {H0 : Heap} {z : Int} (k : Nat) (y : Int), HK (· = s) H H0 → H0.get s = some (.row [.int .u64 z] 153) → ∃ H1, Heap.put ⟨H0.next + k, H0.t⟩ s (some (.row [.int .u64 y] 153)) = H1 ∧ HK (· = s) H H1 ∧ H1.get s = some (.row [.int .u64 y] 153) := fun {H0 z} k y hk hg =>
    ⟨_, rfl, (hk.bump k).put (.inl rfl) (Nat.lt_add_right _ (hk.wf _ _ hg)) _, by rw [get_put, if_pos rfl]⟩
  have ld : ∀ {H0 : Heap} {z : Int}, H0.get s = some (.row [.int .u64 z] 153) → H0.load ⟨s, 0, none⟩ 1 = some [.int .u64 z] := fun h => by simp only [Heap.load, Heap.cells, h]; rfl
  have l0 := ld hs
  (repeat refine EvC.seq ?_); refine EvC.reg ?_; simp (config := { maxSteps := 2000000 }) (disch := first | omega | rfl) only [sA, initTm]
  refine EvC.cut (fun st => ∃ tm H' y, st = ⟨tm, [], H'⟩ ∧ tm.get 0 = some (.pointer (some ⟨s, 0, none⟩)) ∧ HK (· = s) H H' ∧ H'.get s = some (.row [.int .u64 y] 153)) ?_ ?_
  · repeat' (first | refine EvC.seq ?_ | refine EvC.scope ?_ | refine EvC.block ?_ | (refine EvC.skip ?_) | (refine EvC.exit ?_) | (refine EvC.ret ?_; try simp only [z01, z00]) | (refine EvC.drw [([(0, 0), (1, 0), (2, 0), (3, 0), (4, 0), (5, 0), (6, 0), (7, 0), (8, 0)], some 9), ([], none)] ?_ ?_; kernel_rfl; simp (config := { maxSteps := 2000000 }) (disch := first | omega | rfl) only [sD, sB, Nat.reduceEqDiff, Nat.reduceAdd, one, reduceCtorEq, Int.reduceToNat, zj9, zj7, z25, z5b, l0, hs, bShl, bXor, isAlloc, isRead, reduceCtorEq]))
    exact ⟨_, _, _, rfl, (by simp only [sG, reduceCtorEq] <;> rfl), ((HK.refl (S := fun x => x = s) hw).bump _).put (.inl rfl) (Nat.lt_add_right _ (hw _ _ hs)) _, by rw [get_put, if_pos rfl]⟩
  clear l0
  rintro st ⟨tm, H1, z1, rfl, t0, k1, g1⟩
  have l1 := ld g1
  refine EvC.cut (fun st => ∃ tm H' y, st = ⟨tm, [], H'⟩ ∧ tm.get 0 = some (.pointer (some ⟨s, 0, none⟩)) ∧ HK (· = s) H H' ∧ H'.get s = some (.row [.int .u64 y] 153)) ?_ ?_
  · repeat' (first | refine EvC.seq ?_ | refine EvC.scope ?_ | refine EvC.block ?_ | (refine EvC.skip ?_) | (refine EvC.exit ?_) | (refine EvC.ret ?_; try simp only [z01, z00]) | (refine EvC.drw [([(0, 0), (1, 0), (2, 0), (3, 0), (4, 0), (5, 0), (6, 0), (7, 0), (8, 0)], some 9), ([], none)] ?_ ?_; kernel_rfl; simp (config := { maxSteps := 2000000 }) (disch := first | omega | rfl) only [sD, sB, Nat.reduceEqDiff, Nat.reduceAdd, one, reduceCtorEq, Int.reduceToNat, zj9, zj7, t0, z25, z5b, l1, g1, bShr, bXor, isAlloc, isRead, reduceCtorEq]))
    exact ⟨_, _, _, rfl, (by simp only [sG, reduceCtorEq, t0] <;> rfl), (k1.bump _).put (.inl rfl) (Nat.lt_add_right _ (k1.wf _ _ g1)) _, by rw [get_put, if_pos rfl]⟩
  clear l1 t0
  rintro st ⟨tm, H2, z2, rfl, t0, k2, g2⟩
  have l2 := ld g2
  refine EvC.cut (fun st => ∃ tm H' y, st = ⟨tm, [], H'⟩ ∧ tm.get 0 = some (.pointer (some ⟨s, 0, none⟩)) ∧ HK (· = s) H H' ∧ H'.get s = some (.row [.int .u64 y] 153)) ?_ ?_
  · repeat' (first | refine EvC.seq ?_ | refine EvC.scope ?_ | refine EvC.block ?_ | (refine EvC.skip ?_) | (refine EvC.exit ?_) | (refine EvC.ret ?_; try simp only [z01, z00]) | (refine EvC.drw [([(0, 0), (1, 0), (2, 0), (3, 0), (4, 0), (5, 0), (6, 0), (7, 0), (8, 0)], some 9), ([], none)] ?_ ?_; kernel_rfl; simp (config := { maxSteps := 2000000 }) (disch := first | omega | rfl) only [sD, sB, Nat.reduceEqDiff, Nat.reduceAdd, one, reduceCtorEq, Int.reduceToNat, zj9, zj7, t0, z25, z5b, l2, g2, bShl, bXor, isAlloc, isRead, reduceCtorEq]))
    exact ⟨_, _, _, rfl, (by simp only [sG, reduceCtorEq, t0] <;> rfl), (k2.bump _).put (.inl rfl) (Nat.lt_add_right _ (k2.wf _ _ g2)) _, by rw [get_put, if_pos rfl]⟩
  clear l2 t0
  rintro st ⟨tm, H3, z3, rfl, t0, k3, g3⟩
  have l3 := ld g3
  repeat' (first | refine EvC.seq ?_ | refine EvC.scope ?_ | refine EvC.block ?_ | (refine EvC.skip ?_) | (refine EvC.exit ?_) | (refine EvC.ret ?_; try simp only [z01, z00]) | (refine EvC.reg ?_; simp (config := { maxSteps := 2000000 }) (disch := first | omega | rfl) only [sB, Nat.reduceEqDiff, zj9, t0, z25, z5b, l3]))
  exact z04 rfl (by simp only [sG, Nat.reduceEqDiff] <;> rfl) ⟨_, rfl, g3, k3⟩
set_option maxHeartbeats 8000000 in
theorem zi8 {b n c a e : Nat} {D : Nat → Bnd} {H : Heap} (hr : RowB H 59 b n D) (hn : n ≤ most) (h1 : a + 12 < e) (h3 : e ≤ n) (hw : H.wf) :
    EvF Tryd.prog okT 115 [.slice (some ⟨b, 0, none⟩) n c, .int .i64 (a : Nat), .int .i64 (e : Nat), cvB] H fun _ H' =>
      ∃ D', RowB H' 59 b n D' ∧ Pm a e D D' ∧ HK (· = b) H H' := by
  have hms : most ≤ 1048576 := by simp [most]
  refine EvF.enter rfl Tryd.func115 (by decide) rfl ?_
  obtain ⟨cells0, hg0, -, -⟩ := hr.row
  have hbl := hw _ _ hg0
  have hwl : IntKind.i64.wrap ((e : Int) - (a : Int)) = ((e - a : Nat) : Int) := by rw [z05 (by omega) (by omega)]; omega
  generalize hl : e - a = l at *
  have d8 : decide (((l : Nat) : Int) ≥ 8) = true := decide_eq_true (by omega)
  have hu : IntKind.u64.wrap (l : Int) = (l : Int) := wrap_u64 (by omega) (by omega)
  have hq : IntKind.i64.wrap (((l : Nat) : Int).tdiv 4) = ((l / 4 : Nat) : Int) := by rw [Int.tdiv_eq_ediv_of_nonneg (by omega), z05 (by omega) (by omega)]; omega
  have m2 : IntKind.i64.wrap (((l / 4 : Nat) : Int) * 2) = ((l / 4 * 2 : Nat) : Int) := by rw [z05 (by omega) (by omega)]; omega
  have a2 : IntKind.i64.wrap ((a : Int) + ((l / 4 * 2 : Nat) : Int)) = ((a + l / 4 * 2 : Nat) : Int) := by rw [z05 (by omega) (by omega)]; omega
  have b1 : a + 1 ≤ a + l / 4 * 2 ∧ a + l / 4 * 2 + 1 < e := by omega
  generalize a + l / 4 * 2 = md at *
  have a3 : IntKind.i64.wrap ((md : Int) - 1) = ((md - 1 : Nat) : Int) := by rw [z05 (by omega) (by omega)]; omega
  have a4 : IntKind.i64.wrap ((md : Int) + 1) = ((md + 1 : Nat) : Int) := by rw [z05 (by omega) (by omega)]; omega
  (repeat refine EvC.seq ?_); refine EvC.reg ?_; simp (config := { maxSteps := 2000000 }) (disch := first | omega | rfl) only [sB, initTm, Nat.reduceEqDiff, Nat.reduceAdd, reduceCtorEq, hwl]
  (repeat refine EvC.seq ?_); refine EvC.reg ?_; simp (config := { maxSteps := 2000000 }) (disch := first | omega | rfl) only [sB, Nat.reduceEqDiff, reduceCtorEq, d8]
  (repeat refine EvC.seq ?_); refine EvC.condT (by simp (config := { maxSteps := 2000000 }) (disch := first | omega | rfl) only [sB, Nat.reduceEqDiff, reduceCtorEq]) ?_; (try refine EvC.skip ?_); (try simp only [z02, z09])
  (repeat refine EvC.seq ?_); refine EvC.reg ?_; simp (config := { maxSteps := 2000000 }) (disch := first | omega | rfl) only [sB, dAlloc, Nat.reduceEqDiff, one, reduceCtorEq, zlu, zoq, zj7, hu]
  obtain ⟨H1, e1, hx1, g1, hn1, hw1⟩ := z0u hw (.row [.int .u64 0] 153) (.row [.int .u64 (l : Int)] 153)
  simp only [e1]
  clear e1
  have r1 := hr.heap (hx1.keep b hbl)
  (repeat refine EvC.seq ?_); refine EvC.reg ?_; simp (config := { maxSteps := 2000000 }) (disch := first | omega | rfl) only [sB, Nat.reduceEqDiff, reduceCtorEq, zor]
  refine (zfs (x := l) (by omega) (by omega)).mono ?_
  rintro v H2 ⟨m, rfl, hm1, hm2, rfl⟩
  repeat' (first | refine EvC.seq ?_ | refine EvC.scope ?_ | refine EvC.block ?_ | (refine EvC.skip ?_) | (refine EvC.exit ?_) | (refine EvC.ret ?_; try simp only [z01, z00]) | (refine EvC.reg ?_; simp (config := { maxSteps := 2000000 }) (disch := first | omega | rfl) only [sB, Nat.reduceEqDiff, reduceCtorEq, hq, bQuo, m2, a2, a3]))
  have hwm : IntKind.u64.wrap ((m : Int) - 1) = ((m - 1 : Nat) : Int) := by rw [wrap_u64 (by omega) (by omega)]; omega
  refine EvC.loop (fun k st => ∃ tm H' ix z D', st = ⟨tm, [], H'⟩ ∧ k = md + 2 - ix ∧ md - 1 ≤ ix ∧ ix ≤ md + 2 ∧ tm.get 0 = some (.slice (some ⟨b, 0, none⟩) n c) ∧ tm.get 1 = some (.int .i64 (a : Nat)) ∧ tm.get 8 = some (.int .i64 (l : Nat)) ∧ tm.get 9 = some (.pointer (some ⟨H.next, 0, none⟩)) ∧
    tm.get 10 = some (.int .u64 (m : Nat)) ∧ tm.get 11 = some (.int .i64 (ix : Nat)) ∧ H'.get H.next = some (.row [.int .u64 z] 153) ∧ RowB H' 59 b n D' ∧ Pm a e D D' ∧ HK (· = b) H H') ?_ 3 _ ?_
  · rintro k st ⟨tm, H', ix, z, D', rfl, rfl, hi1, hi2, t0, t1, t8, t9, t10, t11, gz, hr', hm, hk⟩
    by_cases hle : ix ≤ md + 1
    rotate_left
    · have hd : decide (((ix : Nat) : Int) ≤ ((md + 1 : Nat) : Int)) = false := decide_eq_false (by omega)
      repeat' (first | refine EvC.seq ?_ | refine EvC.scope ?_ | refine EvC.block ?_ | (refine EvC.skip ?_) | (refine EvC.exit ?_; try simp only [sB]) | (refine EvC.ret ?_; try simp only [z01, z00]) | (refine EvC.reg ?_; simp (config := { maxSteps := 2000000 }) (disch := first | omega | rfl) only [sB, Nat.reduceEqDiff, t1, t8, t11, hq, bQuo, m2, a2, a4, hd]) | (refine EvC.condT ?_ ?_; simp (config := { maxSteps := 2000000 }) (disch := first | omega | rfl) only [sB, Nat.reduceEqDiff]; refine z03 ?_) | (refine EvC.condF ?_ ?_; simp (config := { maxSteps := 2000000 }) (disch := first | omega | rfl) only [sB, Nat.reduceEqDiff]; refine z03 ?_))
      exact z0l rfl ⟨D', hr', hm, hk⟩
    have hd : decide (((ix : Nat) : Int) ≤ ((md + 1 : Nat) : Int)) = true := decide_eq_true (by omega)
    (repeat refine EvC.seq ?_); refine EvC.reg ?_; simp (config := { maxSteps := 2000000 }) (disch := first | omega | rfl) only [sB, Nat.reduceEqDiff, t1, t8, t11, hq, bQuo, m2, a2, a4, hd]
    (repeat refine EvC.seq ?_); refine EvC.condT (by simp (config := { maxSteps := 2000000 }) (disch := first | omega | rfl) only [sB, Nat.reduceEqDiff]) ?_; (try refine EvC.skip ?_); (try simp only [z02, z09])
    refine EvC.seq ?_
    refine EvC.block ?_
    (repeat refine EvC.seq ?_); refine EvC.reg ?_; simp (config := { maxSteps := 2000000 }) (disch := first | omega | rfl) only [sB, Nat.reduceEqDiff, zos, t9]
    refine (zn4 gz hk.wf).mono ?_
    rintro v H2 ⟨y, rfl, gy, hk2⟩
    obtain ⟨cells1, hg1, -, -⟩ := hr'.row
    have hbl1 := hk.wf _ _ hg1
    have r2 := hr'.heap (hk2.keep b hbl1 (by intro q; have q' : b = H.next := q; omega))
    have hkk : HK (· = b) H H2 := hk.side hk2 (by intro j hj q; have q' : j = H.next := q; omega)
    obtain ⟨q, hq1, hq2⟩ := zn3 (z := y) (m := m - 1) (by omega)
    have hcv : IntKind.i64.wrap (q : Int) = (q : Int) := z05 (by omega) (by omega)
    try simp (config := { maxSteps := 2000000 }) (disch := first | omega | rfl) only [sB, Nat.reduceEqDiff, zlt, t10, hwm, bAnd, hq1, hcv]
    refine EvC.cut (fun st => ∃ tm q, st = ⟨tm, [], H2⟩ ∧ q < l ∧ tm.get 0 = some (.slice (some ⟨b, 0, none⟩) n c) ∧ tm.get 1 = some (.int .i64 (a : Nat)) ∧ tm.get 8 = some (.int .i64 (l : Nat)) ∧ tm.get 9 = some (.pointer (some ⟨H.next, 0, none⟩)) ∧
      tm.get 10 = some (.int .u64 (m : Nat)) ∧ tm.get 11 = some (.int .i64 (ix : Nat)) ∧ tm.get 12 = some (.int .i64 (q : Nat))) ?_ ?_
    · by_cases hql : l ≤ q
      · have hd2 : decide ((q : Int) ≥ (l : Int)) = true := decide_eq_true (by omega)
        have hw3 : IntKind.i64.wrap ((q : Int) - (l : Int)) = ((q - l : Nat) : Int) := by rw [z05 (by omega) (by omega)]; omega
        repeat' (first | refine EvC.seq ?_ | refine EvC.scope ?_ | refine EvC.block ?_ | (refine EvC.skip ?_) | (refine EvC.exit ?_) | (refine EvC.ret ?_; try simp only [z01, z00]) | (refine EvC.reg ?_; simp (config := { maxSteps := 2000000 }) (disch := first | omega | rfl) only [sB, Nat.reduceEqDiff, t8, hd2, hw3]) | (refine EvC.condT ?_ ?_; simp (config := { maxSteps := 2000000 }) (disch := first | omega | rfl) only [sB, Nat.reduceEqDiff]; refine z03 ?_))
        exact ⟨_, q - l, rfl, by omega, (by simp only [sG, reduceCtorEq, t0] <;> rfl), (by simp only [sG, Nat.reduceEqDiff, t1] <;> rfl), (by simp only [sG, Nat.reduceEqDiff, t8] <;> rfl), (by simp only [sG, Nat.reduceEqDiff, t9] <;> rfl), (by simp only [sG, Nat.reduceEqDiff, t10] <;> rfl), (by simp only [sG, Nat.reduceEqDiff, t11] <;> rfl), (by simp only [sG, Nat.reduceEqDiff] <;> rfl)⟩
      · have hd2 : decide ((q : Int) ≥ (l : Int)) = false := decide_eq_false (by omega)
        repeat' (first | refine EvC.seq ?_ | refine EvC.scope ?_ | refine EvC.block ?_ | (refine EvC.skip ?_; try simp only [true_and]) | (refine EvC.exit ?_) | (refine EvC.ret ?_; try simp only [z01, z00]) | (refine EvC.reg ?_; simp (config := { maxSteps := 2000000 }) (disch := first | omega | rfl) only [sB, Nat.reduceEqDiff, t8, hd2]) | (refine EvC.condT ?_ ?_; simp (config := { maxSteps := 2000000 }) (disch := first | omega | rfl) only [sB, Nat.reduceEqDiff]; refine z03 ?_) | (refine EvC.condF ?_ ?_; simp (config := { maxSteps := 2000000 }) (disch := first | omega | rfl) only [sB, Nat.reduceEqDiff]; refine z03 ?_))
        exact ⟨_, q, rfl, by omega, (by simp only [sG, reduceCtorEq, t0] <;> rfl), (by simp only [sG, Nat.reduceEqDiff, t1] <;> rfl), (by simp only [sG, Nat.reduceEqDiff, t8] <;> rfl), (by simp only [sG, Nat.reduceEqDiff, t9] <;> rfl), (by simp only [sG, Nat.reduceEqDiff, t10] <;> rfl), (by simp only [sG, Nat.reduceEqDiff, t11] <;> rfl), (by simp only [sG, Nat.reduceEqDiff] <;> rfl)⟩
    clear t0 t1 t8 t9 t10 t11 hq1 hq2 hcv q
    rintro st ⟨tm, q, rfl, hql, t0, t1, t8, t9, t10, t11, t12⟩
    have hw4 : IntKind.i64.wrap ((a : Int) + (q : Int)) = ((a + q : Nat) : Int) := by rw [z05 (by omega) (by omega)]; omega
    have hw5 : IntKind.i64.wrap ((ix : Int) + 1) = ((ix + 1 : Nat) : Int) := by rw [z05 (by omega) (by omega)]; omega
    have k1 : ix < n := by omega
    have k2 : a + q < n := by omega
    have l1 := r2.load k1
    have l2 := r2.load k2
    obtain ⟨cells, hg2, hl, he⟩ := r2.row
    have hbl2 := hkk.wf _ _ hg2
    have le1 : ix * 7 + 7 ≤ cells.length := by have := mul7 k1; omega
    have le2 : (a + q) * 7 + 7 ≤ cells.length := by have := mul7 k2; omega
    have hsw := fun H2 h2 => RowB.swap (H := H') (b := b) (T := 59) hl he k1 k2 H2 h2
    have ms := Pm.swap (a := a) (b := e) (i := ix) (j := a + q) (D := D') (by omega) (by omega) (by omega) (by omega)
    generalize swF ix (a + q) D' = D2 at *
    generalize hE1 : D' ix = E1 at *
    generalize hE2 : D' (a + q) = E2 at *
    have le3 : (a + q) * 7 + 7 ≤ (Hb.splice cells (ix * 7) E2.seven).length := by rw [z0e (vs := E2.seven) le1]; exact le2
    repeat' (first | refine EvC.seq ?_ | refine EvC.scope ?_ | refine EvC.block ?_ | (refine EvC.skip ?_) | (refine EvC.exit ?_) | (refine EvC.ret ?_; try simp only [z01, z00]) | (refine EvC.reg ?_; simp (config := { maxSteps := 2000000 }) (disch := first | omega | rfl) only [sB, Nat.reduceEqDiff, t11, hw5]) | (refine EvC.drw [([(0, 0), (1, 0), (6, 0), (7, 0), (8, 0), (9, 0), (10, 0), (11, 0), (12, 0), (13, 0), (14, 0), (15, 0), (16, 0)], some 17), ([(2, 0), (3, 0), (4, 0), (5, 0), (18, 1)], some 19), ([], none)] ?_ ?_; kernel_rfl; simp (config := { maxSteps := 2000000 }) (disch := first | omega | rfl) only [sV, sD, sB, Nat.reduceEqDiff, Nat.reduceAdd, one, reduceCtorEq, ia57, ld59, st59, t0, t1, t11, t12, hw4, l1, l2, hg2, le1, le3, isAlloc, isRead, reduceCtorEq]))
    exact ⟨md + 2 - (ix + 1), by omega, _, _, ix + 1, y, D2, rfl, rfl, by omega, by omega, (by simp only [sG, reduceCtorEq, t0] <;> rfl), (by simp only [sG, Nat.reduceEqDiff, t1] <;> rfl), (by simp only [sG, Nat.reduceEqDiff, t8] <;> rfl), (by simp only [sG, Nat.reduceEqDiff, t9] <;> rfl), (by simp only [sG, Nat.reduceEqDiff, t10] <;> rfl), (by simp only [sG, Nat.reduceEqDiff] <;> rfl), by rw [get_put, if_neg (by omega), get_put, if_neg (by omega)]; exact gy, hsw _ (by rw [get_put, if_pos rfl]), hm.trans ms, hkk.two hbl2 _ _ _⟩
  · exact ⟨_, _, md - 1, _, D, rfl, by omega, Nat.le_refl _, by omega, (by simp only [sG, reduceCtorEq] <;> rfl), (by simp only [sG, Nat.reduceEqDiff, reduceCtorEq] <;> rfl), (by simp only [sG, Nat.reduceEqDiff, reduceCtorEq] <;> rfl), (by simp only [sG, Nat.reduceEqDiff, reduceCtorEq] <;> rfl), (by simp only [sG, Nat.reduceEqDiff, reduceCtorEq] <;> rfl), (by simp only [sG, Nat.reduceEqDiff, reduceCtorEq] <;> rfl), g1, r1, Pm.refl D, hx1.hk _⟩
end Go.Proofs.YtlllbkjiadcloaaDoor.hb
end

-- Pd9
section
namespace Go.Hb
section
variable {α : Type}
def OutZ (z : α → Int) (a a' e' e : Nat) (D : Nat → α) : Prop := ∀ p q, a ≤ p → p < q → q < e → (p < a' ∨ e' ≤ q) → z (D p) ≤ z (D q)
theorem OutZ.start {z : α → Int} {a e : Nat} {D : Nat → α} : OutZ z a a e e D := fun p q h1 h2 h3 h4 => by omega
theorem OutZ.move {z : α → Int} {a a' e' e : Nat} {D E : Nat → α} (h : OutZ z a a' e' e D) (ha : a ≤ a') (he : e' ≤ e) (m : Pm a' e' D E) : OutZ z a a' e' e E := fun p q h1 h2 h3 h4 => by
  by_cases hp : a' ≤ p ∧ p < e'
  · obtain ⟨j, j1, j2, ej⟩ := m.inn hp.1 hp.2
    rw [ej, m.out (k := q) (by omega)]
    exact h j q (by omega) (by omega) h3 (by omega)
  · rw [m.out (k := p) (by omega)]
    by_cases hq : a' ≤ q ∧ q < e'
    · obtain ⟨j, j1, j2, ej⟩ := m.inn hq.1 hq.2
      rw [ej]; exact h p j h1 (by omega) (by omega) (by omega)
    · rw [m.out (k := q) (by omega)]; exact h p q h1 h2 h3 h4
theorem OutZ.fin {z : α → Int} {a a' e' e : Nat} {D : Nat → α} (h : OutZ z a a' e' e D) (i : InZ z a' e' D) : InZ z a e D := fun p q h1 h2 h3 => by
  by_cases hp : p < a' ∨ e' ≤ q
  · exact h p q h1 h2 h3 hp
  · exact i p q (by omega) h2 (by omega)
end
end Go.Hb
namespace Go.Proofs.YtlllbkjiadcloaaDoor.hb
open Go Go.RowKit Go.Hb
variable {ok : Ok}
set_option maxRecDepth 10000
attribute [local irreducible] LX LG EL STG SOP SGO SGD SAL SRD SEF SEG SLK SCK ES
set_option maxHeartbeats 16000000 in
theorem zn5 {b n c : Nat} (hn : n ≤ most) : ∀ (M : Nat) {a e lim : Nat} {D : Nat → Bnd} {H : Heap}, e - a ≤ M → a ≤ e → e ≤ n → lim ≤ 64 → RowB H 59 b n D → (0 < a → ∀ k, a ≤ k → k < e → (D (a - 1)).v ≤ (D k).v) → H.wf →
    EvF Tryd.prog okT 97 [.slice (some ⟨b, 0, none⟩) n c, .int .i64 (a : Nat), .int .i64 (e : Nat), .int .i64 (lim : Nat), cvB] H fun _ H' =>
      ∃ D', RowB H' 59 b n D' ∧ Pm a e D D' ∧ InZ Bnd.v a e D' ∧ HK (· = b) H H' := by
  have hms : most ≤ 1048576 := by simp [most]
  have hg := z2l
  intro M
  induction M with
  | zero =>
    intro a e lim D H hM hae hen hlim hr low hw
    obtain rfl : e = a := by omega
    refine EvF.enter rfl Tryd.func97 (by decide) rfl ?_
    have hwl : IntKind.i64.wrap ((e : Int) - (e : Int)) = 0 := by rw [z05 (by omega) (by omega)]; omega
    (repeat refine EvC.seq ?_); refine EvC.reg ?_; simp (config := { maxSteps := 2000000 }) (disch := first | omega | rfl) only [sA, initTm, Nat.reduceAdd]
    (repeat refine EvC.seq ?_); refine EvC.reg ?_; simp (config := { maxSteps := 2000000 }) (disch := first | omega | rfl) only [sA]
    (repeat refine EvC.seq ?_)
    refine EvC.block (EvC.loop1 ?_)
    (repeat refine EvC.seq ?_)
    refine EvC.block ?_
    have hd : decide ((0 : Int) ≤ 12) = true := rfl
    repeat' (first | refine EvC.seq ?_ | refine EvC.scope ?_ | refine EvC.block ?_ | (refine EvC.skip ?_) | (refine EvC.exit ?_) | (refine EvC.ret ?_; try simp only [z01, z00]) | (refine EvC.reg ?_; simp (config := { maxSteps := 2000000 }) (disch := first | omega | rfl) only [sB, Nat.reduceEqDiff, reduceCtorEq, zls, hwl, hd]) | (refine EvC.condT ?_ ?_; simp (config := { maxSteps := 2000000 }) (disch := first | omega | rfl) only [sB, Nat.reduceEqDiff, reduceCtorEq]; refine z03 ?_))
    refine (z8j hr hn (Nat.le_refl _) hen hw).mono ?_
    rintro v H2 ⟨D2, r2, m2, i2, k2⟩
    repeat' (first | refine EvC.seq ?_ | refine EvC.scope ?_ | refine EvC.block ?_ | (refine EvC.skip ?_) | (refine EvC.exit ?_) | (refine EvC.ret ?_; try simp only [z01, z00]))
    exact z2b rfl ⟨D2, r2, m2, i2, k2⟩
  | succ M ih =>
  intro a e lim D H hM hae hen hlim hr low hw
  refine EvF.enter rfl Tryd.func97 (by decide) rfl ?_
  (repeat refine EvC.seq ?_); refine EvC.reg ?_; simp (config := { maxSteps := 2000000 }) (disch := first | omega | rfl) only [sA, initTm, Nat.reduceAdd]
  (repeat refine EvC.seq ?_); refine EvC.reg ?_; simp (config := { maxSteps := 2000000 }) (disch := first | omega | rfl) only [sA]
  (repeat refine EvC.seq ?_)
  refine EvC.block (EvC.loop (fun k st => ∃ tm H' a' e' lim wb wp D', st = ⟨tm, [], H'⟩ ∧ k = e' - a' ∧ a ≤ a' ∧ a' ≤ e' ∧ e' ≤ e ∧ lim ≤ 64 ∧ tm.get 0 = some (.slice (some ⟨b, 0, none⟩) n c) ∧ tm.get 1 = some (.int .i64 (a' : Nat)) ∧ tm.get 2 = some (.int .i64 (e' : Nat)) ∧ tm.get 3 = some (.int .i64 (lim : Nat)) ∧ tm.get 4 = some cvB ∧
    tm.get 10 = some (.bool wb) ∧ tm.get 11 = some (.bool wp) ∧ RowB H' 59 b n D' ∧ Pm a e D D' ∧ OutZ Bnd.v a a' e' e D' ∧ HK (· = b) H H') ?_ (e - a) _ ?_)
  rotate_left
  · exact ⟨_, _, a, e, lim, true, true, D, rfl, rfl, Nat.le_refl _, hae, Nat.le_refl _, hlim, (by simp only [sG, reduceCtorEq] <;> rfl), (by simp only [sG, Nat.reduceEqDiff, reduceCtorEq] <;> rfl), (by simp only [sG, Nat.reduceEqDiff, reduceCtorEq] <;> rfl), (by simp only [sG, Nat.reduceEqDiff, reduceCtorEq] <;> rfl), (by simp only [sG, Nat.reduceEqDiff, reduceCtorEq] <;> rfl), (by simp only [sG, Nat.reduceEqDiff, reduceCtorEq] <;> rfl), (by simp only [sG, Nat.reduceEqDiff, reduceCtorEq] <;> rfl), hr, Pm.refl D, OutZ.start, HK.refl hw⟩
  rintro k st ⟨tm, H0, a', e', lim, wb, wp, D0, rfl, rfl, ha', hae', he', hlim, t0, t1, t2, t3, t4, t10, t11, hr0, hm0, ho0, hk0⟩
  have lowD : ∀ D', Pm a e D D' → OutZ Bnd.v a a' e' e D' → 0 < a' → ∀ k, a' ≤ k → k < e' → (D' (a' - 1)).v ≤ (D' k).v := fun D' hm ho h0 k k1 k2 => by
    by_cases hq : a < a'
    · exact ho (a' - 1) k (by omega) (by omega) (by omega) (.inl (by omega))
    · obtain rfl : a' = a := by omega
      rw [hm.out (k := a' - 1) (.inl (by omega))]
      exact hm.all (P := fun x => (D (a' - 1)).v ≤ x.v) (low h0) k k1 (by omega)
  (repeat refine EvC.seq ?_)
  refine EvC.block ?_
  have hwl : IntKind.i64.wrap ((e' : Int) - (a' : Int)) = ((e' - a' : Nat) : Int) := by rw [z05 (by omega) (by omega)]; omega
  by_cases h12 : e' - a' ≤ 12
  · have hd : decide (((e' - a' : Nat) : Int) ≤ 12) = true := decide_eq_true (by omega)
    repeat' (first | refine EvC.seq ?_ | refine EvC.scope ?_ | refine EvC.block ?_ | (refine EvC.skip ?_) | (refine EvC.exit ?_) | (refine EvC.ret ?_; try simp only [z01, z00]) | (refine EvC.reg ?_; simp (config := { maxSteps := 2000000 }) (disch := first | omega | rfl) only [sB, Nat.reduceEqDiff, reduceCtorEq, zls, t0, t1, t2, t4, hwl, hd]) | (refine EvC.condT ?_ ?_; simp (config := { maxSteps := 2000000 }) (disch := first | omega | rfl) only [sB, Nat.reduceEqDiff]; refine z03 ?_))
    refine (z8j hr0 hn hae' (by omega) hk0.wf).mono ?_
    rintro v H2 ⟨D2, r2, m2, i2, k2⟩
    repeat' (first | refine EvC.seq ?_ | refine EvC.scope ?_ | refine EvC.block ?_ | (refine EvC.skip ?_) | (refine EvC.exit ?_) | (refine EvC.ret ?_; try simp only [z01, z00]))
    exact z2b rfl ⟨D2, r2, hm0.trans (m2.wide ha' he'), (ho0.move ha' he' m2).fin i2, hk0.trans k2⟩
  have hd12 : decide (((e' - a' : Nat) : Int) ≤ 12) = false := decide_eq_false (by omega)
  by_cases hl0 : lim = 0
  · have hd : ((lim : Int) == 0) = true := z1p (by omega)
    repeat' (first | refine EvC.seq ?_ | refine EvC.scope ?_ | refine EvC.block ?_ | (refine EvC.skip ?_; try simp only [z02]) | (refine EvC.exit ?_) | (refine EvC.ret ?_; try simp only [z01, z00]) | (refine EvC.reg ?_; simp (config := { maxSteps := 2000000 }) (disch := first | omega | rfl) only [sB, Nat.reduceEqDiff, reduceCtorEq, zoe, t0, t1, t2, t3, t4, hwl, hd12, hd]) | (refine EvC.condT ?_ ?_; simp (config := { maxSteps := 2000000 }) (disch := first | omega | rfl) only [sB, Nat.reduceEqDiff]; refine z03 ?_) | (refine EvC.condF ?_ ?_; simp (config := { maxSteps := 2000000 }) (disch := first | omega | rfl) only [sB, Nat.reduceEqDiff]; refine z03 ?_))
    refine (zk2 hr0 hn (by omega) (by omega) hk0.wf).mono ?_
    rintro v H2 ⟨D2, r2, m2, i2, k2⟩
    repeat' (first | refine EvC.seq ?_ | refine EvC.scope ?_ | refine EvC.block ?_ | (refine EvC.skip ?_) | (refine EvC.exit ?_) | (refine EvC.ret ?_; try simp only [z01, z00]))
    exact z2b rfl ⟨D2, r2, hm0.trans (m2.wide ha' he'), (ho0.move ha' he' m2).fin i2, hk0.trans k2⟩
  have hdl : ((lim : Int) == 0) = false := z0x (by omega)
  (repeat refine EvC.seq ?_); refine EvC.reg ?_; simp (config := { maxSteps := 2000000 }) (disch := first | omega | rfl) only [sB, Nat.reduceEqDiff, t1, t2, hwl]
  (repeat refine EvC.seq ?_); refine EvC.reg ?_; simp (config := { maxSteps := 2000000 }) (disch := first | omega | rfl) only [sB, Nat.reduceEqDiff, hd12]
  (repeat refine EvC.seq ?_); refine EvC.condF (by simp (config := { maxSteps := 2000000 }) (disch := first | omega | rfl) only [sB, Nat.reduceEqDiff]) ?_; (try refine EvC.skip ?_); (try simp only [z02, z09])
  (repeat refine EvC.seq ?_); refine EvC.reg ?_; simp (config := { maxSteps := 2000000 }) (disch := first | omega | rfl) only [sB, Nat.reduceEqDiff, t3, hdl]
  (repeat refine EvC.seq ?_); refine EvC.condF (by simp (config := { maxSteps := 2000000 }) (disch := first | omega | rfl) only [sB, Nat.reduceEqDiff]) ?_; (try refine EvC.skip ?_); (try simp only [z02, z09])
  refine EvC.cut (fun st => ∃ tm H' lim D', st = ⟨tm, [], H'⟩ ∧ lim ≤ 64 ∧ tm.get 0 = some (.slice (some ⟨b, 0, none⟩) n c) ∧ tm.get 1 = some (.int .i64 (a' : Nat)) ∧ tm.get 2 = some (.int .i64 (e' : Nat)) ∧ tm.get 3 = some (.int .i64 (lim : Nat)) ∧ tm.get 4 = some cvB ∧
    tm.get 10 = some (.bool wb) ∧ tm.get 11 = some (.bool wp) ∧ tm.get 12 = some (.int .i64 ((e' - a' : Nat) : Int)) ∧ RowB H' 59 b n D' ∧ Pm a e D D' ∧ OutZ Bnd.v a a' e' e D' ∧ HK (· = b) H H') ?_ ?_
  · cases wb with
    | true =>
      repeat' (first | refine EvC.seq ?_ | refine EvC.scope ?_ | refine EvC.block ?_ | (refine EvC.skip ?_; try simp only [true_and]) | (refine EvC.exit ?_) | (refine EvC.ret ?_; try simp only [z01, z00]) | (refine EvC.reg ?_; simp (config := { maxSteps := 2000000 }) (disch := first | omega | rfl) only [sB, Nat.reduceEqDiff, t10, Bool.not_true]) | (refine EvC.condT ?_ ?_; simp (config := { maxSteps := 2000000 }) (disch := first | omega | rfl) only [sB, Nat.reduceEqDiff]; refine z03 ?_) | (refine EvC.condF ?_ ?_; simp (config := { maxSteps := 2000000 }) (disch := first | omega | rfl) only [sB, Nat.reduceEqDiff]; refine z03 ?_))
      exact ⟨_, _, lim, D0, rfl, hlim, (by simp only [sG, reduceCtorEq, t0] <;> rfl), (by simp only [sG, Nat.reduceEqDiff, t1] <;> rfl), (by simp only [sG, Nat.reduceEqDiff, t2] <;> rfl), (by simp only [sG, Nat.reduceEqDiff, t3] <;> rfl), (by simp only [sG, Nat.reduceEqDiff, t4] <;> rfl), (by simp only [sG, Nat.reduceEqDiff, t10] <;> rfl), (by simp only [sG, Nat.reduceEqDiff, t11] <;> rfl), (by simp only [sG, Nat.reduceEqDiff] <;> rfl), hr0, hm0, ho0, hk0⟩
    | false =>
      have hwm : IntKind.i64.wrap ((lim : Int) - 1) = ((lim - 1 : Nat) : Int) := by rw [z05 (by omega) (by omega)]; omega
      repeat' (first | refine EvC.seq ?_ | refine EvC.scope ?_ | refine EvC.block ?_ | (refine EvC.skip ?_) | (refine EvC.exit ?_) | (refine EvC.ret ?_; try simp only [z01, z00]) | (refine EvC.reg ?_; simp (config := { maxSteps := 2000000 }) (disch := first | omega | rfl) only [sB, Nat.reduceEqDiff, reduceCtorEq, zof, t0, t1, t2, t4, t10, Bool.not_false]) | (refine EvC.condT ?_ ?_; simp (config := { maxSteps := 2000000 }) (disch := first | omega | rfl) only [sB, Nat.reduceEqDiff]; refine z03 ?_))
      refine (zi8 hr0 hn (by omega) (by omega) hk0.wf).mono ?_
      rintro v H2 ⟨D2, r2, m2, k2⟩
      repeat' (first | refine EvC.seq ?_ | refine EvC.scope ?_ | refine EvC.block ?_ | (refine EvC.skip ?_) | (refine EvC.exit ?_) | (refine EvC.ret ?_; try simp only [z01, z00]) | (refine EvC.reg ?_; simp (config := { maxSteps := 2000000 }) (disch := first | omega | rfl) only [sB, Nat.reduceEqDiff, t3, hwm]))
      exact ⟨_, _, lim - 1, D2, rfl, by omega, (by simp only [sG, reduceCtorEq, t0] <;> rfl), (by simp only [sG, Nat.reduceEqDiff, t1] <;> rfl), (by simp only [sG, Nat.reduceEqDiff, t2] <;> rfl), (by simp only [sG, Nat.reduceEqDiff] <;> rfl), (by simp only [sG, Nat.reduceEqDiff, t4] <;> rfl), (by simp only [sG, Nat.reduceEqDiff, t10] <;> rfl), (by simp only [sG, Nat.reduceEqDiff, t11] <;> rfl), (by simp only [sG, Nat.reduceEqDiff] <;> rfl), r2, hm0.trans (m2.wide ha' he'), ho0.move ha' he' m2, hk0.trans k2⟩
  clear t0 t1 t2 t3 t4 t10 t11 hr0 hm0 ho0 hk0 hdl hl0 hlim D0 lim
  rintro st ⟨tm, H1, lim, D1, rfl, hlim, t0, t1, t2, t3, t4, t10, t11, t12, hr1, hm1, ho1, hk1⟩
  (repeat refine EvC.seq ?_); refine EvC.reg ?_; simp (config := { maxSteps := 2000000 }) (disch := first | omega | rfl) only [sB, Nat.reduceEqDiff, zog, t0, t1, t2, t4]
  refine (zi5 hr1 hn (by omega) (by omega) hk1.wf).mono ?_
  rintro v H2 ⟨p, hint, rfl, hp1, hp2, hx2⟩
  obtain ⟨cells1, hg1, -, -⟩ := hr1.row
  have hbl1 := hk1.wf _ _ hg1
  have hr2 := hr1.heap (hx2.keep b hbl1)
  have hk2 := hk1.hxs hx2
  clear hx2 hr1 hk1 hg1 hbl1
  try simp (config := { maxSteps := 2000000 }) (disch := first | omega | rfl) only [sB, Nat.reduceEqDiff]
  refine EvC.cut (fun st => ∃ tm H' p hint D', st = ⟨tm, [], H'⟩ ∧ a' ≤ p ∧ p < e' ∧ tm.get 0 = some (.slice (some ⟨b, 0, none⟩) n c) ∧ tm.get 1 = some (.int .i64 (a' : Nat)) ∧ tm.get 2 = some (.int .i64 (e' : Nat)) ∧ tm.get 3 = some (.int .i64 (lim : Nat)) ∧ tm.get 4 = some cvB ∧
    tm.get 10 = some (.bool wb) ∧ tm.get 11 = some (.bool wp) ∧ tm.get 12 = some (.int .i64 ((e' - a' : Nat) : Int)) ∧ tm.get 13 = some (.int .i64 (p : Nat)) ∧ tm.get 14 = some (.int .i64 hint) ∧ RowB H' 59 b n D' ∧ Pm a e D D' ∧ OutZ Bnd.v a a' e' e D' ∧ HK (· = b) H H') ?_ ?_
  · by_cases h2 : hint = 2
    · have hd : (hint == 2) = true := z1p h2
      have hw1 : IntKind.i64.wrap ((e' : Int) - 1) = ((e' - 1 : Nat) : Int) := by rw [z05 (by omega) (by omega)]; omega
      have hw2 : IntKind.i64.wrap ((p : Int) - (a' : Int)) = ((p - a' : Nat) : Int) := by rw [z05 (by omega) (by omega)]; omega
      have hw3 : IntKind.i64.wrap (((e' - 1 : Nat) : Int) - ((p - a' : Nat) : Int)) = ((e' - 1 - (p - a') : Nat) : Int) := by rw [z05 (by omega) (by omega)]; omega
      repeat' (first | refine EvC.seq ?_ | refine EvC.scope ?_ | refine EvC.block ?_ | (refine EvC.skip ?_) | (refine EvC.exit ?_) | (refine EvC.ret ?_; try simp only [z01, z00]) | (refine EvC.reg ?_; simp (config := { maxSteps := 2000000 }) (disch := first | omega | rfl) only [sB, Nat.reduceEqDiff, reduceCtorEq, zoh, t0, t1, t2, t4, hd]) | (refine EvC.condT ?_ ?_; simp (config := { maxSteps := 2000000 }) (disch := first | omega | rfl) only [sB, Nat.reduceEqDiff]; refine z03 ?_))
      refine (zcq hr2 hn (by omega) (by omega) hk2.wf).mono ?_
      rintro v H3 ⟨D3, r3, m3, k3⟩
      repeat' (first | refine EvC.seq ?_ | refine EvC.scope ?_ | refine EvC.block ?_ | (refine EvC.skip ?_) | (refine EvC.exit ?_) | (refine EvC.ret ?_; try simp only [z01, z00]) | (refine EvC.reg ?_; simp (config := { maxSteps := 2000000 }) (disch := first | omega | rfl) only [sB, Nat.reduceEqDiff, t1, t2, hw1, hw2, hw3]))
      exact ⟨_, _, e' - 1 - (p - a'), 1, D3, rfl, by omega, by omega, (by simp only [sG, reduceCtorEq, t0] <;> rfl), (by simp only [sG, Nat.reduceEqDiff, t1] <;> rfl), (by simp only [sG, Nat.reduceEqDiff, t2] <;> rfl), (by simp only [sG, Nat.reduceEqDiff, t3] <;> rfl), (by simp only [sG, Nat.reduceEqDiff, t4] <;> rfl), (by simp only [sG, Nat.reduceEqDiff, t10] <;> rfl), (by simp only [sG, Nat.reduceEqDiff, t11] <;> rfl), (by simp only [sG, Nat.reduceEqDiff, t12] <;> rfl), (by simp only [sG, Nat.reduceEqDiff] <;> rfl), (by simp only [sG, Nat.reduceEqDiff] <;> rfl), r3, hm1.trans (m3.wide ha' he'), ho1.move ha' he' m3, hk2.trans k3⟩
    · have hd : (hint == 2) = false := z0x h2
      repeat' (first | refine EvC.seq ?_ | refine EvC.scope ?_ | refine EvC.block ?_ | (refine EvC.skip ?_; try simp only [true_and]) | (refine EvC.exit ?_) | (refine EvC.ret ?_; try simp only [z01, z00]) | (refine EvC.reg ?_; simp (config := { maxSteps := 2000000 }) (disch := first | omega | rfl) only [sB, Nat.reduceEqDiff, hd]) | (refine EvC.condT ?_ ?_; simp (config := { maxSteps := 2000000 }) (disch := first | omega | rfl) only [sB, Nat.reduceEqDiff]; refine z03 ?_) | (refine EvC.condF ?_ ?_; simp (config := { maxSteps := 2000000 }) (disch := first | omega | rfl) only [sB, Nat.reduceEqDiff]; refine z03 ?_))
      exact ⟨_, _, p, hint, D1, rfl, hp1, hp2, (by simp only [sG, reduceCtorEq, t0] <;> rfl), (by simp only [sG, Nat.reduceEqDiff, t1] <;> rfl), (by simp only [sG, Nat.reduceEqDiff, t2] <;> rfl), (by simp only [sG, Nat.reduceEqDiff, t3] <;> rfl), (by simp only [sG, Nat.reduceEqDiff, t4] <;> rfl), (by simp only [sG, Nat.reduceEqDiff, t10] <;> rfl), (by simp only [sG, Nat.reduceEqDiff, t11] <;> rfl), (by simp only [sG, Nat.reduceEqDiff, t12] <;> rfl), (by simp only [sG, Nat.reduceEqDiff] <;> rfl), (by simp only [sG, Nat.reduceEqDiff] <;> rfl), hr2, hm1, ho1, hk2⟩
  clear t0 t1 t2 t3 t4 t10 t11 t12 hr2 hk2 hm1 ho1 hp1 hp2 p hint
  rintro st ⟨tm, H3, p, hint, D3, rfl, hp1, hp2, t0, t1, t2, t3, t4, t10, t11, t12, t13, t14, hr3, hm3, ho3, hk3⟩
  refine EvC.seq (EvC.join (fun st => ∃ tm H' D', st = ⟨tm, [], H'⟩ ∧ tm.get 0 = some (.slice (some ⟨b, 0, none⟩) n c) ∧ tm.get 1 = some (.int .i64 (a' : Nat)) ∧ tm.get 2 = some (.int .i64 (e' : Nat)) ∧ tm.get 3 = some (.int .i64 (lim : Nat)) ∧ tm.get 4 = some cvB ∧
    tm.get 10 = some (.bool wb) ∧ tm.get 11 = some (.bool wp) ∧ tm.get 12 = some (.int .i64 ((e' - a' : Nat) : Int)) ∧ tm.get 13 = some (.int .i64 (p : Nat)) ∧ RowB H' 59 b n D' ∧ Pm a e D D' ∧ OutZ Bnd.v a a' e' e D' ∧ HK (· = b) H H') ?_ ?_)
  · cases wb with
    | false =>
      repeat' (first | refine EvC.seq ?_ | refine EvC.scope ?_ | refine EvC.block ?_ | (refine EvC.skip ?_; try simp only [z02]) | (refine EvC.exit ?_) | (refine EvC.ret ?_; try simp only [z01, z00]) | (refine EvC.reg ?_; simp (config := { maxSteps := 2000000 }) (disch := first | omega | rfl) only [sB, Nat.reduceEqDiff, t10, Bool.false_eq_true]) | (refine EvC.condT ?_ ?_; simp (config := { maxSteps := 2000000 }) (disch := first | omega | rfl) only [sB, Nat.reduceEqDiff]; refine z03 ?_) | (refine EvC.condF ?_ ?_; simp (config := { maxSteps := 2000000 }) (disch := first | omega | rfl) only [sB, Nat.reduceEqDiff]; refine z03 ?_))
      exact ⟨_, _, D3, rfl, (by simp only [sG, reduceCtorEq, t0] <;> rfl), (by simp only [sG, Nat.reduceEqDiff, t1] <;> rfl), (by simp only [sG, Nat.reduceEqDiff, t2] <;> rfl), (by simp only [sG, Nat.reduceEqDiff, t3] <;> rfl), (by simp only [sG, Nat.reduceEqDiff, t4] <;> rfl), (by simp only [sG, Nat.reduceEqDiff, t10] <;> rfl), (by simp only [sG, Nat.reduceEqDiff, t11] <;> rfl), (by simp only [sG, Nat.reduceEqDiff, t12] <;> rfl), (by simp only [sG, Nat.reduceEqDiff, t13] <;> rfl), hr3, hm3, ho3, hk3⟩
    | true =>
    cases wp with
    | false =>
      repeat' (first | refine EvC.seq ?_ | refine EvC.scope ?_ | refine EvC.block ?_ | (refine EvC.skip ?_; try simp only [z02]) | (refine EvC.exit ?_) | (refine EvC.ret ?_; try simp only [z01, z00]) | (refine EvC.reg ?_; simp (config := { maxSteps := 2000000 }) (disch := first | omega | rfl) only [sB, Nat.reduceEqDiff, t10, t11, Bool.false_eq_true]) | (refine EvC.condT ?_ ?_; simp (config := { maxSteps := 2000000 }) (disch := first | omega | rfl) only [sB, Nat.reduceEqDiff]; refine z03 ?_) | (refine EvC.condF ?_ ?_; simp (config := { maxSteps := 2000000 }) (disch := first | omega | rfl) only [sB, Nat.reduceEqDiff]; refine z03 ?_))
      exact ⟨_, _, D3, rfl, (by simp only [sG, reduceCtorEq, t0] <;> rfl), (by simp only [sG, Nat.reduceEqDiff, t1] <;> rfl), (by simp only [sG, Nat.reduceEqDiff, t2] <;> rfl), (by simp only [sG, Nat.reduceEqDiff, t3] <;> rfl), (by simp only [sG, Nat.reduceEqDiff, t4] <;> rfl), (by simp only [sG, Nat.reduceEqDiff, t10] <;> rfl), (by simp only [sG, Nat.reduceEqDiff, t11] <;> rfl), (by simp only [sG, Nat.reduceEqDiff, t12] <;> rfl), (by simp only [sG, Nat.reduceEqDiff, t13] <;> rfl), hr3, hm3, ho3, hk3⟩
    | true =>
    by_cases h1 : hint = 1
    rotate_left
    · have hd : (hint == 1) = false := z0x h1
      repeat' (first | refine EvC.seq ?_ | refine EvC.scope ?_ | refine EvC.block ?_ | (refine EvC.skip ?_; try simp only [z02]) | (refine EvC.exit ?_) | (refine EvC.ret ?_; try simp only [z01, z00]) | (refine EvC.reg ?_; simp (config := { maxSteps := 2000000 }) (disch := first | omega | rfl) only [sB, Nat.reduceEqDiff, t10, t11, t14, hd]) | (refine EvC.condT ?_ ?_; simp (config := { maxSteps := 2000000 }) (disch := first | omega | rfl) only [sB, Nat.reduceEqDiff]; refine z03 ?_) | (refine EvC.condF ?_ ?_; simp (config := { maxSteps := 2000000 }) (disch := first | omega | rfl) only [sB, Nat.reduceEqDiff]; refine z03 ?_))
      exact ⟨_, _, D3, rfl, (by simp only [sG, reduceCtorEq, t0] <;> rfl), (by simp only [sG, Nat.reduceEqDiff, t1] <;> rfl), (by simp only [sG, Nat.reduceEqDiff, t2] <;> rfl), (by simp only [sG, Nat.reduceEqDiff, t3] <;> rfl), (by simp only [sG, Nat.reduceEqDiff, t4] <;> rfl), (by simp only [sG, Nat.reduceEqDiff, t10] <;> rfl), (by simp only [sG, Nat.reduceEqDiff, t11] <;> rfl), (by simp only [sG, Nat.reduceEqDiff, t12] <;> rfl), (by simp only [sG, Nat.reduceEqDiff, t13] <;> rfl), hr3, hm3, ho3, hk3⟩
    have hd : (hint == 1) = true := z1p h1
    repeat' (first | refine EvC.seq ?_ | refine EvC.scope ?_ | refine EvC.block ?_ | (refine EvC.skip ?_) | (refine EvC.exit ?_) | (refine EvC.ret ?_; try simp only [z01, z00]) | (refine EvC.reg ?_; simp (config := { maxSteps := 2000000 }) (disch := first | omega | rfl) only [sB, Nat.reduceEqDiff, reduceCtorEq, zoi, t0, t1, t2, t4, t10, t11, t14, hd]) | (refine EvC.condT ?_ ?_; simp (config := { maxSteps := 2000000 }) (disch := first | omega | rfl) only [sB, Nat.reduceEqDiff]; refine z03 ?_))
    refine (zcr hr3 hn (by omega) (by omega) (lowD D3 hm3 ho3) hk3.wf).mono ?_
    rintro v H4 ⟨t, D4, rfl, r4, m4, i4, k4⟩
    cases t with
    | true =>
      repeat' (first | refine EvC.seq ?_ | refine EvC.scope ?_ | refine EvC.block ?_ | (refine EvC.skip ?_) | (refine EvC.exit ?_) | (refine EvC.ret ?_; try simp only [z01, z00]) | (refine EvC.condT ?_ ?_; simp (config := { maxSteps := 2000000 }) (disch := first | omega | rfl) only [sB, Nat.reduceEqDiff]; refine z03 ?_))
      exact z2b rfl ⟨D4, r4, hm3.trans (m4.wide ha' he'), (ho3.move ha' he' m4).fin (i4 rfl), hk3.trans k4⟩
    | false =>
      repeat' (first | refine EvC.seq ?_ | refine EvC.scope ?_ | refine EvC.block ?_ | (refine EvC.skip ?_; try simp only [z02]) | (refine EvC.exit ?_) | (refine EvC.ret ?_; try simp only [z01, z00]) | (refine EvC.condT ?_ ?_; simp (config := { maxSteps := 2000000 }) (disch := first | omega | rfl) only [sB, Nat.reduceEqDiff]; refine z03 ?_) | (refine EvC.condF ?_ ?_; simp (config := { maxSteps := 2000000 }) (disch := first | omega | rfl) only [sB, Nat.reduceEqDiff]; refine z03 ?_))
      exact ⟨_, _, D4, rfl, (by simp only [sG, reduceCtorEq, t0] <;> rfl), (by simp only [sG, Nat.reduceEqDiff, t1] <;> rfl), (by simp only [sG, Nat.reduceEqDiff, t2] <;> rfl), (by simp only [sG, Nat.reduceEqDiff, t3] <;> rfl), (by simp only [sG, Nat.reduceEqDiff, t4] <;> rfl), (by simp only [sG, Nat.reduceEqDiff, t10] <;> rfl), (by simp only [sG, Nat.reduceEqDiff, t11] <;> rfl), (by simp only [sG, Nat.reduceEqDiff, t12] <;> rfl), (by simp only [sG, Nat.reduceEqDiff, t13] <;> rfl), r4, hm3.trans (m4.wide ha' he'), ho3.move ha' he' m4, hk3.trans k4⟩
  clear t0 t1 t2 t3 t4 t10 t11 t12 t13 t14 hr3 hm3 ho3 hk3 hint
  rintro st ⟨tm, H4, D4, rfl, t0, t1, t2, t3, t4, t10, t11, t12, t13, hr4, hm4, ho4, hk4⟩
  try simp (config := { maxSteps := 2000000 }) (disch := first | omega | rfl) only [z02]
  refine EvC.seq (EvC.join (fun st => ∃ tm H', st = ⟨tm, [], H'⟩ ∧ tm.get 0 = some (.slice (some ⟨b, 0, none⟩) n c) ∧ tm.get 1 = some (.int .i64 (a' : Nat)) ∧ tm.get 2 = some (.int .i64 (e' : Nat)) ∧ tm.get 3 = some (.int .i64 (lim : Nat)) ∧ tm.get 4 = some cvB ∧
    tm.get 10 = some (.bool wb) ∧ tm.get 11 = some (.bool wp) ∧ tm.get 12 = some (.int .i64 ((e' - a' : Nat) : Int)) ∧ tm.get 13 = some (.int .i64 (p : Nat)) ∧ RowB H' 59 b n D4 ∧ HK (· = b) H H') ?_ ?_)
  · by_cases h0 : a' = 0
    · have hd : decide ((a' : Int) > 0) = false := decide_eq_false (by omega)
      repeat' (first | refine EvC.seq ?_ | refine EvC.scope ?_ | refine EvC.block ?_ | (refine EvC.skip ?_; try simp only [z02]) | (refine EvC.exit ?_) | (refine EvC.ret ?_; try simp only [z01, z00]) | (refine EvC.drw [([(0, 0), (1, 0), (2, 0), (3, 0), (4, 0), (5, 0), (6, 0), (7, 0), (8, 0), (9, 0), (10, 0), (11, 0), (12, 0)], some 13), ([(14, 1), (15, 1), (16, 1)], none)] ?_ ?_; kernel_rfl; simp (config := { maxSteps := 2000000 }) (disch := first | omega | rfl) only [sD, sB, Nat.reduceEqDiff, Nat.reduceAdd, t1, hd, Bool.false_eq_true, isAlloc, isRead]) | (refine EvC.condT ?_ ?_; simp (config := { maxSteps := 2000000 }) (disch := first | omega | rfl) only [sB, Nat.reduceEqDiff]; refine z03 ?_) | (refine EvC.condF ?_ ?_; simp (config := { maxSteps := 2000000 }) (disch := first | omega | rfl) only [sB, Nat.reduceEqDiff]; refine z03 ?_))
      exact ⟨_, _, rfl, (by simp only [sG, reduceCtorEq, t0] <;> rfl), (by simp only [sG, Nat.reduceEqDiff, t1] <;> rfl), (by simp only [sG, Nat.reduceEqDiff, t2] <;> rfl), (by simp only [sG, Nat.reduceEqDiff, t3] <;> rfl), (by simp only [sG, Nat.reduceEqDiff, t4] <;> rfl), (by simp only [sG, Nat.reduceEqDiff, t10] <;> rfl), (by simp only [sG, Nat.reduceEqDiff, t11] <;> rfl), (by simp only [sG, Nat.reduceEqDiff, t12] <;> rfl), (by simp only [sG, Nat.reduceEqDiff, t13] <;> rfl), hr4.heap rfl, hk4.bump _⟩
    have hd : decide ((a' : Int) > 0) = true := decide_eq_true (by omega)
    have hw1 : IntKind.i64.wrap ((a' : Int) - 1) = ((a' - 1 : Nat) : Int) := by rw [z05 (by omega) (by omega)]; omega
    have k1 : a' - 1 < n := by omega
    have k2 : p < n := by omega
    have l1 := hr4.load k1
    have l2 := hr4.load k2
    have hb := hk4.bump 17
    repeat' (first | refine EvC.seq ?_ | refine EvC.scope ?_ | refine EvC.block ?_ | (refine EvC.skip ?_) | (refine EvC.exit ?_) | (refine EvC.ret ?_; try simp only [z01, z00]) | (refine EvC.drw [([(0, 0), (1, 0), (2, 0), (3, 0), (4, 0), (5, 0), (6, 0), (7, 0), (8, 0), (9, 0), (10, 0), (11, 0), (12, 0)], some 13), ([(14, 1), (15, 1), (16, 1)], none)] ?_ ?_; kernel_rfl; simp (config := { maxSteps := 2000000 }) (disch := first | omega | rfl) only [sD, sB, Nat.reduceEqDiff, Nat.reduceAdd, reduceCtorEq, ia57, ld59, t0, t1, t4, t13, hd, hw1, l1, l2, z0o, z0f hg, isAlloc, isRead, reduceCtorEq]))
    obtain ⟨cells0, hg0, -, -⟩ := hr4.row
    have hbl := hk4.wf _ _ hg0
    refine (z1t hb.wf).mono ?_
    rintro v H5 ⟨rfl, hx5⟩
    have hk5 := hb.hxs hx5
    have r5 := hr4.heap (H' := H5) (by rw [hx5.keep b (Nat.lt_add_right _ hbl)]; rfl)
    by_cases hc : (D4 (a' - 1)).v < (D4 p).v
    · repeat' (first | refine EvC.seq ?_ | refine EvC.scope ?_ | refine EvC.block ?_ | (refine EvC.skip ?_; try simp only [z02]) | (refine EvC.exit ?_) | (refine EvC.ret ?_; try simp only [z01, z00]) | (refine z0h ?_; simp (config := { maxSteps := 2000000 }) (disch := first | omega | rfl) only [sD, sB, Nat.reduceEqDiff, cz_t hc, Bool.not_true, isAlloc, isRead]) | (refine EvC.condT ?_ ?_; simp (config := { maxSteps := 2000000 }) (disch := first | omega | rfl) only [sB, Nat.reduceEqDiff]; refine z03 ?_) | (refine EvC.condF ?_ ?_; simp (config := { maxSteps := 2000000 }) (disch := first | omega | rfl) only [sB, Nat.reduceEqDiff]; refine z03 ?_))
      exact ⟨_, _, rfl, (by simp only [sG, reduceCtorEq, t0] <;> rfl), (by simp only [sG, Nat.reduceEqDiff, t1] <;> rfl), (by simp only [sG, Nat.reduceEqDiff, t2] <;> rfl), (by simp only [sG, Nat.reduceEqDiff, t3] <;> rfl), (by simp only [sG, Nat.reduceEqDiff, t4] <;> rfl), (by simp only [sG, Nat.reduceEqDiff, t10] <;> rfl), (by simp only [sG, Nat.reduceEqDiff, t11] <;> rfl), (by simp only [sG, Nat.reduceEqDiff, t12] <;> rfl), (by simp only [sG, Nat.reduceEqDiff, t13] <;> rfl), r5, hk5⟩
    · repeat' (first | refine EvC.seq ?_ | refine EvC.scope ?_ | refine EvC.block ?_ | (refine EvC.skip ?_) | (refine EvC.exit ?_) | (refine EvC.ret ?_; try simp only [z01, z00]) | (refine EvC.reg ?_; simp (config := { maxSteps := 2000000 }) (disch := first | omega | rfl) only [sB, Nat.reduceEqDiff, reduceCtorEq, zoj, t0, t1, t2, t4, t13]) | (refine z0h ?_; simp (config := { maxSteps := 2000000 }) (disch := first | omega | rfl) only [sD, sB, Nat.reduceEqDiff, cz_f hc, Bool.not_false, isAlloc, isRead]) | (refine EvC.condT ?_ ?_; simp (config := { maxSteps := 2000000 }) (disch := first | omega | rfl) only [sB, Nat.reduceEqDiff]; refine z03 ?_))
      refine (zfq r5 hn hp1 hp2 (by omega) hk5.wf).mono ?_
      rintro v H6 ⟨m, D6, rfl, q1, q2, r6, m6, lo6, hi6, k6⟩
      repeat' (first | refine EvC.seq ?_ | refine EvC.scope ?_ | refine EvC.block ?_ | (refine EvC.skip ?_) | (refine EvC.exit ?_; try simp only [sB, reduceCtorEq]) | (refine EvC.ret ?_; try simp only [z01, z00]) | (refine EvC.reg ?_; simp (config := { maxSteps := 2000000 }) (disch := first | omega | rfl) only [sB, Nat.reduceEqDiff]))
      have ho6 := ho4.move ha' he' m6
      have hm6 := hm4.trans (m6.wide ha' he')
      have lw := lowD D6 hm6 ho6 (by omega)
      have lx : (D6 (a' - 1)).v = (D4 (a' - 1)).v := by rw [m6.out (.inl (by omega))]
      exact ⟨e' - m, by omega, _, _, m, e', lim, wb, wp, D6, rfl, rfl, by omega, by omega, he', hlim, (by simp only [sG, reduceCtorEq, t0] <;> rfl), (by simp only [sG, Nat.reduceEqDiff] <;> rfl), (by simp only [sG, Nat.reduceEqDiff, t2] <;> rfl), (by simp only [sG, Nat.reduceEqDiff, t3] <;> rfl), (by simp only [sG, Nat.reduceEqDiff, t4] <;> rfl), (by simp only [sG, Nat.reduceEqDiff, t10] <;> rfl), (by simp only [sG, Nat.reduceEqDiff, t11] <;> rfl), r6, hm6, fun p' q' p1 p2 p3 p4 => by
        by_cases c1 : p' < a' ∨ e' ≤ q'
        · exact ho6 p' q' p1 p2 p3 c1
        · have x1 := lo6 p' (by omega) (by omega)
          have x2 := lw q' (by omega) (by omega)
          omega, hk5.trans k6⟩
  clear t0 t1 t2 t3 t4 t10 t11 t12 t13 hr4 hk4
  rintro st ⟨tm, H5, rfl, t0, t1, t2, t3, t4, t10, t11, t12, t13, hr5, hk5⟩
  try simp (config := { maxSteps := 2000000 }) (disch := first | omega | rfl) only [z02]
  (repeat refine EvC.seq ?_); refine EvC.reg ?_; simp (config := { maxSteps := 2000000 }) (disch := first | omega | rfl) only [sB, Nat.reduceEqDiff, zok, t0, t1, t2, t4, t13]
  refine (zk3 hr5 hn hp1 hp2 (by omega) hk5.wf).mono ?_
  rintro v H6 ⟨m, f, D6, rfl, q1, q2, r6, m6, lo6, hi6, k6⟩
  have ho6 := ho4.move ha' he' m6
  have hm6 := hm4.trans (m6.wide ha' he')
  have hk6 := hk5.trans k6
  have hw1 : IntKind.i64.wrap ((m : Int) - (a' : Int)) = ((m - a' : Nat) : Int) := by rw [z05 (by omega) (by omega)]; omega
  have hw2 : IntKind.i64.wrap ((e' : Int) - (m : Int)) = ((e' - m : Nat) : Int) := by rw [z05 (by omega) (by omega)]; omega
  have hw3 : IntKind.i64.wrap ((m : Int) + 1) = ((m + 1 : Nat) : Int) := by rw [z05 (by omega) (by omega)]; omega
  have hq8 : IntKind.i64.wrap (((e' - a' : Nat) : Int).tdiv 8) = (((e' - a') / 8 : Nat) : Int) := by rw [Int.tdiv_eq_ediv_of_nonneg (by omega), z05 (by omega) (by omega)]; omega
  by_cases hll : m - a' < e' - m
  · repeat' (first | refine EvC.seq ?_ | refine EvC.scope ?_ | refine EvC.block ?_ | (refine EvC.skip ?_) | (refine EvC.exit ?_) | (refine EvC.ret ?_; try simp only [z01, z00]) | (refine EvC.reg ?_; simp (config := { maxSteps := 2000000 }) (disch := first | omega | rfl) only [sB, Nat.reduceEqDiff, reduceCtorEq, cl97, t0, t1, t2, t3, t4, t12, hw1, hw2, bQuo, hq8, decl hll]) | (refine z0t ?_; simp (config := { maxSteps := 2000000 }) (disch := first | omega | rfl) only [sB, Nat.reduceEqDiff]) | (refine EvC.condT ?_ ?_; simp (config := { maxSteps := 2000000 }) (disch := first | omega | rfl) only [sB, Nat.reduceEqDiff]; refine z03 ?_))
    refine (ih (a := a') (e := m) (lim := lim) (by omega) q1 (by omega) hlim r6 (fun h0 k k1 k2 => lowD D6 hm6 ho6 h0 k k1 (by omega)) hk6.wf).mono ?_
    rintro v H7 ⟨D7, r7, m7, i7, k7⟩
    repeat' (first | refine EvC.seq ?_ | refine EvC.scope ?_ | refine EvC.block ?_ | (refine EvC.skip ?_) | (refine EvC.exit ?_) | (refine EvC.ret ?_; try simp only [z01, z00]) | (refine EvC.reg ?_; simp (config := { maxSteps := 2000000 }) (disch := first | omega | rfl) only [sB, Nat.reduceEqDiff, hw3]))
    have ho7 := ho6.move ha' he' (m7.wide (Nat.le_refl _) (by omega))
    exact ⟨e' - (m + 1), by omega, _, _, m + 1, e', lim, _, f, D7, rfl, rfl, by omega, by omega, he', hlim, (by simp only [sG, reduceCtorEq, t0] <;> rfl), (by simp only [sG, Nat.reduceEqDiff] <;> rfl), (by simp only [sG, Nat.reduceEqDiff, t2] <;> rfl), (by simp only [sG, Nat.reduceEqDiff, t3] <;> rfl), (by simp only [sG, Nat.reduceEqDiff, t4] <;> rfl), (by simp only [sB, Nat.reduceEqDiff] <;> rfl), (by simp only [sG, Nat.reduceEqDiff] <;> rfl), r7, hm6.trans (m7.wide ha' (by omega)), fun p' q' p1 p2 p3 p4 => by
      by_cases c1 : p' < a' ∨ e' ≤ q'
      · exact ho7 p' q' p1 p2 p3 c1
      · by_cases c2 : q' < m
        · exact i7 p' q' (by omega) p2 c2
        · by_cases c3 : p' = m
          · subst c3
            rw [m7.out (.inr (Nat.le_refl _)), m7.out (k := q') (.inr (by omega))]
            exact hi6 q' (by omega) (by omega)
          · obtain ⟨j, j1, j2, ej⟩ := m7.inn (k := p') (by omega) (by omega)
            rw [ej, m7.out (k := q') (.inr (by omega))]
            have x1 := lo6 j j1 j2
            by_cases c4 : q' = m
            · subst c4; omega
            · have x2 := hi6 q' (by omega) (by omega)
              omega, hk6.trans k7⟩
  · repeat' (first | refine EvC.seq ?_ | refine EvC.scope ?_ | refine EvC.block ?_ | (refine EvC.skip ?_) | (refine EvC.exit ?_) | (refine EvC.ret ?_; try simp only [z01, z00]) | (refine EvC.reg ?_; simp (config := { maxSteps := 2000000 }) (disch := first | omega | rfl) only [sB, Nat.reduceEqDiff, reduceCtorEq, cl97, t0, t1, t2, t3, t4, t12, hw1, hw2, hw3, bQuo, hq8, decn hll]) | (refine z0t ?_; simp (config := { maxSteps := 2000000 }) (disch := first | omega | rfl) only [sB, Nat.reduceEqDiff]) | (refine EvC.condT ?_ ?_; simp (config := { maxSteps := 2000000 }) (disch := first | omega | rfl) only [sB, Nat.reduceEqDiff]; refine z03 ?_) | (refine EvC.condF ?_ ?_; simp (config := { maxSteps := 2000000 }) (disch := first | omega | rfl) only [sB, Nat.reduceEqDiff]; refine z03 ?_))
    refine (ih (a := m + 1) (e := e') (lim := lim) (by omega) (by omega) (by omega) hlim r6 (fun h0 k k1 k2 => hi6 k (by omega) k2) hk6.wf).mono ?_
    rintro v H7 ⟨D7, r7, m7, i7, k7⟩
    repeat' (first | refine EvC.seq ?_ | refine EvC.scope ?_ | refine EvC.block ?_ | (refine EvC.skip ?_) | (refine EvC.exit ?_) | (refine EvC.ret ?_; try simp only [z01, z00]) | (refine EvC.reg ?_; simp (config := { maxSteps := 2000000 }) (disch := first | omega | rfl) only [sB, Nat.reduceEqDiff]))
    have ho7 := ho6.move ha' he' (m7.wide (by omega) (Nat.le_refl _))
    exact ⟨m - a', by omega, _, _, a', m, lim, _, f, D7, rfl, rfl, ha', q1, by omega, hlim, (by simp only [sG, reduceCtorEq, t0] <;> rfl), (by simp only [sG, Nat.reduceEqDiff, t1] <;> rfl), (by simp only [sG, Nat.reduceEqDiff] <;> rfl), (by simp only [sG, Nat.reduceEqDiff, t3] <;> rfl), (by simp only [sG, Nat.reduceEqDiff, t4] <;> rfl), (by simp only [sB, Nat.reduceEqDiff] <;> rfl), (by simp only [sG, Nat.reduceEqDiff] <;> rfl), r7, hm6.trans (m7.wide (by omega) he'), fun p' q' p1 p2 p3 p4 => by
      by_cases c1 : p' < a' ∨ e' ≤ q'
      · exact ho7 p' q' p1 p2 p3 c1
      · by_cases c2 : m < p'
        · exact i7 p' q' (by omega) p2 (by omega)
        · rw [m7.out (k := p') (.inl (by omega))]
          by_cases c3 : q' = m
          · subst c3
            rw [m7.out (.inl (by omega))]
            have x1 := lo6 p' (by omega) (by omega)
            omega
          · obtain ⟨j, j1, j2, ej⟩ := m7.inn (k := q') (by omega) (by omega)
            rw [ej]
            have x2 := hi6 j (by omega) j2
            by_cases c4 : p' = m
            · subst c4; exact x2
            · have x1 := lo6 p' (by omega) (by omega)
              omega, hk6.trans k7⟩
set_option maxHeartbeats 4000000 in
theorem zk5 {b n c : Nat} {D : Nat → Bnd} {H : Heap} (hr : RowB H 59 b n D) (hn : n ≤ most) (hw : H.wf) :
    EvF Tryd.prog okT 81 [.slice (some ⟨b, 0, none⟩) n c, cvB] H fun _ H' => ∃ D', RowB H' 59 b n D' ∧ Pm 0 n D D' ∧ InZ Bnd.v 0 n D' ∧ HK (· = b) H H' := by
  have hms : most ≤ 1048576 := by simp [most]
  refine EvF.enter rfl Tryd.func81 (by decide) rfl ?_
  have hu : IntKind.u64.wrap (n : Int) = (n : Int) := wrap_u64 (by omega) (by omega)
  have hlim : nbits n ≤ 64 := by
    rcases Nat.lt_or_ge 64 (nbits n) with q | q
    · have := (z9c 64).1 q; omega
    · exact q
  repeat' (first | refine EvC.seq ?_ | refine EvC.scope ?_ | refine EvC.block ?_ | (refine EvC.skip ?_) | (refine EvC.exit ?_) | (refine EvC.ret ?_; try simp only [z01, z00]) | (refine EvC.reg ?_; simp (config := { maxSteps := 2000000 }) (disch := first | omega | rfl) only [sB, initTm, Nat.reduceEqDiff, reduceCtorEq, ln57, zca, cl98, cl97, hu]))
  refine (zi6 (x := n) (by omega)).mono ?_
  rintro v H2 ⟨rfl, rfl⟩
  repeat' (first | refine EvC.seq ?_ | refine EvC.scope ?_ | refine EvC.block ?_ | (refine EvC.skip ?_) | (refine EvC.exit ?_) | (refine EvC.ret ?_; try simp only [z01, z00]))
  refine (zn5 hn n (a := 0) (e := n) (by omega) (Nat.zero_le _) (Nat.le_refl _) hlim hr (fun h => by omega) hw).mono ?_
  rintro v H3 ⟨D3, r3, m3, i3, k3⟩
  repeat' (first | refine EvC.seq ?_ | refine EvC.scope ?_ | refine EvC.block ?_ | (refine EvC.skip ?_) | (refine EvC.exit ?_) | (refine EvC.ret ?_; try simp only [z01, z00]))
  exact z0l rfl ⟨D3, r3, m3, i3, k3⟩
end Go.Proofs.YtlllbkjiadcloaaDoor.hb
end

-- Pu6
section
namespace Go.Proofs.YtlllbkjiadcloaaDoor.hb
open Go Go.RowKit Go.Hb
variable {ok : Ok}
set_option maxRecDepth 10000
attribute [local irreducible] LX LG EL STG SOP SGO SGD SAL SRD SEF SEG SLK SCK ES
theorem zbf {M M' : List (Int × Tm)} {n : Int} {u : Tm} (h : M <+: M') (hl : lookT M n = some u) : lookT M' n = some u := by
  obtain ⟨X, rfl⟩ := h
  unfold lookT at *
  rw [List.find?_append]
  cases hf : M.find? (fun p => p.1 == n) with
  | none => rw [hf] at hl; cases hl
  | some p => rw [hf] at hl; simpa using hl
theorem zlf {t : Tm} (h : Fine t) (k : t.kind = 1) : t = varT t.var := by
  obtain ⟨b1, b2, b3, b4, b5⟩ := z24 (z1s h.node).2.2.1
  exact z8e k (b1 (by omega) (by omega)) (b2 (by omega)) (b3 (by omega)) rfl (b5 (by omega))
theorem z5s {t : Tm} (h : Fine t) (k : t.kind = 1) : occ t = [t.var] := by
  rw [z8f, if_pos k, z7h h k, occL, List.append_nil]
theorem z8m {t : Tm} (k : t.kind ≠ 1) : occ t = occL t.args := by rw [z8f, if_neg k, List.nil_append]
theorem z5t : ∀ (m : Nat) {t : Tm}, SizeOf.sizeOf t < m → Fine t → ∀ n ∈ occ t, 0 ≤ n
  | 0, t, h, _ => by omega
  | m + 1, t, h, f => fun n hn => by
    by_cases k : t.kind = 1
    · rw [z5s f k, List.mem_singleton] at hn
      subst hn; exact (z1s f.node).2.2.2.1
    · rw [z8m k] at hn
      have go : ∀ l : List Tm, (∀ u ∈ l, SizeOf.sizeOf u < m ∧ Fine u) → ∀ n ∈ occL l, 0 ≤ n := by
        intro l
        induction l with
        | nil => intro _ n hn; rw [occL] at hn; cases hn
        | cons x l ih =>
          intro hl n hn
          rw [occL] at hn
          rcases List.mem_append.1 hn with hn | hn
          · exact z5t m (hl x (by simp)).1 (hl x (by simp)).2 n hn
          · exact ih (fun u hu => hl u (List.mem_cons_of_mem _ hu)) n hn
      exact go t.args (fun u hu => ⟨by have := z0d hu; omega, f.args u hu⟩) n hn
def Cons (σ : Int → Option Tm) (M : List (Int × Tm)) : Prop := ∀ p ∈ M, p.2 = (σ p.1).getD (varT p.1)
theorem Cons.look {σ : Int → Option Tm} {M : List (Int × Tm)} (h : Cons σ M) {n : Int} {u : Tm} (hl : lookT M n = some u) : u = (σ n).getD (varT n) := h _ (z34 hl)
theorem z7o {σ : Int → Option Tm} : ∀ (m : Nat) {t : Tm} {M : List (Int × Tm)}, SizeOf.sizeOf t < m → Fine t → Cons σ M → ∃ M', matchS t (subO σ t) M = some M' ∧ Cons σ M' ∧ M <+: M' ∧ ∀ n ∈ occ t, lookT M' n ≠ none
  | 0, t, M, h, _, _ => by omega
  | m + 1, t, M, h, f, hc => by
    by_cases k : t.kind = 1
    · have hv : subO σ t = (σ t.var).getD (varT t.var) := by rw [z3i k]; congr 1; exact zlf f k
      rw [z35 k, z5s f k]
      cases hl : lookT M t.var with
      | some old =>
        have := hc.look hl
        refine ⟨M, ?_, hc, List.prefix_refl _, fun n hn => by rw [List.mem_singleton] at hn; subst hn; rw [hl]; exact fun q => by cases q⟩
        simp only [hv, this, if_true]
      | none =>
        refine ⟨_, rfl, fun p hp => ?_, List.prefix_append _ _, fun n hn => ?_⟩
        · rcases List.mem_append.1 hp with hp | hp
          · exact hc p hp
          · rw [List.mem_singleton.1 hp]; exact hv
        · rw [List.mem_singleton] at hn
          subst hn; rw [z5p hl, if_pos rfl]; exact fun q => by cases q
    · have hs := z5l (σ := σ) k
      have hal : alike t (subO σ t) := by rw [hs]; exact ⟨rfl, rfl, rfl, rfl, by simp [Tm.args]⟩
      have ha : (subO σ t).args = t.args.map (subO σ) := by rw [hs]; rfl
      rw [z5q k hal, z8m k, ha]
      have go : ∀ (l : List Tm) (M : List (Int × Tm)), (∀ u ∈ l, SizeOf.sizeOf u < m ∧ Fine u) → Cons σ M → ∃ M', matchL l (l.map (subO σ)) M = some M' ∧ Cons σ M' ∧ M <+: M' ∧ ∀ n ∈ occL l, lookT M' n ≠ none := by
        intro l
        induction l with
        | nil => intro M _ hc; exact ⟨M, by rw [matchL], hc, List.prefix_refl _, fun n hn => by rw [occL] at hn; cases hn⟩
        | cons x l ih =>
          intro M hl hc
          obtain ⟨M1, e1, c1, p1, o1⟩ := z7o m (hl x (by simp)).1 (hl x (by simp)).2 hc
          obtain ⟨M2, e2, c2, p2, o2⟩ := ih M1 (fun u hu => hl u (List.mem_cons_of_mem _ hu)) c1
          refine ⟨M2, ?_, c2, p1.trans p2, fun n hn => ?_⟩
          · rw [matchL, List.map_cons, List.headD_cons, e1]; simp only [List.drop_succ_cons, List.drop_zero]; exact e2
          · rw [occL] at hn
            rcases List.mem_append.1 hn with hn | hn
            · cases hq : lookT M1 n with
              | none => exact absurd hq (o1 n hn)
              | some w => rw [zbf p2 hq]; exact fun q => by cases q
            · exact o2 n hn
      exact go t.args M (fun u hu => ⟨by have := z0d hu; omega, f.args u hu⟩) hc
theorem zbg : ∀ (m : Nat) {t u : Tm} {M M' : List (Int × Tm)}, SizeOf.sizeOf t < m → Fine t → matchS t u M = some M' → M <+: M' ∧ ∀ n ∈ occ t, lookT M' n ≠ none
  | 0, t, u, M, M', h, _, _ => by omega
  | m + 1, t, u, M, M', h, f, hm => by
    by_cases k : t.kind = 1
    · rw [z35 k] at hm
      rw [z5s f k]
      cases hl : lookT M t.var with
      | some old =>
        rw [hl] at hm
        simp only at hm
        split at hm
        · cases hm
          exact ⟨List.prefix_refl _, fun n hn => by rw [List.mem_singleton] at hn; subst hn; rw [hl]; exact fun q => by cases q⟩
        · cases hm
      | none =>
        rw [hl] at hm
        cases hm
        refine ⟨List.prefix_append _ _, fun n hn => ?_⟩
        rw [List.mem_singleton] at hn
        subst hn; rw [z5p hl, if_pos rfl]; exact fun q => by cases q
    · by_cases hal : alike t u
      · rw [z5q k hal] at hm
        rw [z8m k]
        have go : ∀ (l mm : List Tm) (M M' : List (Int × Tm)), (∀ u ∈ l, SizeOf.sizeOf u < m ∧ Fine u) → matchL l mm M = some M' → M <+: M' ∧ ∀ n ∈ occL l, lookT M' n ≠ none := by
          intro l
          induction l with
          | nil => intro mm M M' _ h; rw [matchL] at h; cases h; exact ⟨List.prefix_refl _, fun n hn => by rw [occL] at hn; cases hn⟩
          | cons x l ih =>
            intro mm M M' hl h
            rw [matchL] at h
            cases e1 : matchS x (mm.headD x) M with
            | none => rw [e1] at h; cases h
            | some M1 =>
              rw [e1] at h
              obtain ⟨p1, o1⟩ := zbg m (hl x (by simp)).1 (hl x (by simp)).2 e1
              obtain ⟨p2, o2⟩ := ih _ M1 M' (fun u hu => hl u (List.mem_cons_of_mem _ hu)) h
              refine ⟨p1.trans p2, fun n hn => ?_⟩
              rw [occL] at hn
              rcases List.mem_append.1 hn with hn | hn
              · cases hq : lookT M1 n with
                | none => exact absurd hq (o1 n hn)
                | some w => rw [zbf p2 hq]; exact fun q => by cases q
              · exact o2 n hn
        exact go t.args u.args M M' (fun u hu => ⟨by have := z0d hu; omega, f.args u hu⟩) hm
      · rw [z36 k hal] at hm; cases hm
def wN (σ : Int → Option Tm) (n : Int) : Nat := match σ n with | some u => nd u - 1 | none => 0
theorem zi9 (t : Tm) : 1 ≤ nd t := by rw [z2k]; omega
theorem zct {σ : Int → Option Tm} : ∀ (m : Nat) {t : Tm}, SizeOf.sizeOf t < m → Fine t → nd (subO σ t) = nd t + ((occ t).map (wN σ)).sum
  | 0, t, h, _ => by omega
  | m + 1, t, h, f => by
    by_cases k : t.kind = 1
    · rw [z3i k, z5s f k]
      have h1 : nd t = 1 := by rw [z2k, z7h f k]; rfl
      unfold wN
      cases hs : σ t.var with
      | none => simp [hs]
      | some u => have := zi9 u; simp [hs, h1]; omega
    · have ha : (subO σ t).args = t.args.map (subO σ) := by rw [z5l k]; rfl
      rw [z2k (subO σ t), z2k t, ha, z8m k]
      have go : ∀ l : List Tm, (∀ u ∈ l, SizeOf.sizeOf u < m ∧ Fine u) → nd.ndL (l.map (subO σ)) = nd.ndL l + ((occL l).map (wN σ)).sum := by
        intro l
        induction l with
        | nil => intro _; rw [List.map_nil, occL]; simp
        | cons x l ih =>
          intro hl
          have e1 := zct m (σ := σ) (hl x (by simp)).1 (hl x (by simp)).2
          have e2 := ih fun u hu => hl u (List.mem_cons_of_mem _ hu)
          rw [List.map_cons, occL, List.map_append, List.sum_append, nd.ndL, nd.ndL, e1, e2]; omega
      have := go t.args fun u hu => ⟨by have := z0d hu; omega, f.args u hu⟩
      omega
theorem z7p : ∀ (m : Nat) (t : Tm), SizeOf.sizeOf t < m → ∀ n, n + nd t ≤ 4000 → cnt t n = n + nd t
  | 0, t, h, _, _ => by omega
  | m + 1, t, h, n, hn => by
    rw [z44]
    rw [z2k] at hn ⊢
    have go : ∀ (l : List Tm), (∀ u ∈ l, SizeOf.sizeOf u < m) → ∀ n, n + nd.ndL l ≤ 4000 → cntL l n = n + nd.ndL l := by
      intro l
      induction l with
      | nil => intro _ n hn; rw [cntL]; simp [nd.ndL]
      | cons x l ih =>
        intro hl n hn
        rw [nd.ndL] at hn ⊢
        have h1 := zi9 x
        rw [cntL, if_neg (by omega), z7p m x (hl x (by simp)) n (by omega), ih (fun u hu => hl u (List.mem_cons_of_mem _ hu)) _ (by omega)]; omega
    have := go t.args (fun u hu => by have := z0d hu; omega) (n + 1) (by omega)
    rw [this]; omega
theorem z1m {t : Tm} : checkS t = 0 ↔ nd t ≤ 4000 ∧ Fine t := by
  rw [z0p]
  constructor
  · rintro ⟨h1, h2⟩
    have := z64 _ t (Nat.lt_succ_self _) 0 h1
    exact ⟨by omega, h2⟩
  · rintro ⟨h1, h2⟩
    have := z7p _ t (Nat.lt_succ_self _) 0 (by omega)
    exact ⟨by omega, h2⟩
theorem zia {σ : Int → Option Tm} : ∀ (l : List Int) (m : Nat), m ≤ 4000 → (∀ n ∈ l, ∀ u, σ n = some u → nd u ≤ 4000) → (allS σ m l ≤ 4000 ↔ m + (l.map (wN σ)).sum ≤ 4000)
  | [], m, h, _ => by simp [allS]
  | n :: l, m, h, hσ => by
    have hover : ∀ (l : List Int) (m : Nat), 4000 < m → 4000 < allS σ m l := by
      intro l
      induction l with
      | nil => intro m h; exact h
      | cons n l ih =>
        intro m h
        unfold allS
        rw [List.foldl_cons]
        refine ih _ ?_
        unfold addN
        split
        · rw [if_neg (by omega)]; exact h
        · exact h
    unfold allS
    rw [List.foldl_cons, List.map_cons, List.sum_cons]
    have e : addN σ m n = m + wN σ n := by
      unfold addN wN
      cases hs : σ n with
      | none => rfl
      | some u =>
        have h1 := hσ n (by simp) u hs
        have h2 := z7p _ u (Nat.lt_succ_self _) 0 (by omega)
        have h3 := zi9 u
        simp only [if_pos h]; omega
    rw [e]
    by_cases hm : m + wN σ n ≤ 4000
    · have := zia l (m + wN σ n) hm (fun k hk => hσ k (List.mem_cons_of_mem _ hk))
      unfold allS at this
      rw [this]; omega
    · have := hover l (m + wN σ n) (by omega)
      unfold allS at this
      omega
theorem zbh {σ : Int → Option Tm} : ∀ (m : Nat) {t : Tm}, SizeOf.sizeOf t < m → Fine t → (∀ n ∈ occ t, ∀ u, σ n = some u → Fine u) → Fine (subO σ t)
  | 0, t, h, _, _ => by omega
  | m + 1, t, h, f, hσ => by
    by_cases k : t.kind = 1
    · rw [z3i k]
      cases hs : σ t.var with
      | none => exact f
      | some u => exact hσ t.var (by rw [z5s f k]; simp) u hs
    · rw [z5l k]
      unfold Fine
      rw [z3v]
      have hn : nodeS (.mk t.kind t.name t.num t.bits t.var (t.args.map (subO σ))) = 0 := by
        have h1 := f.node
        obtain ⟨kk, s, w, b, v, l⟩ := t
        exact (zi2 (by simp [Tm.args])).trans h1
      rw [if_pos hn]
      show allL nodeS (t.args.map (subO σ)) = 0
      have hocc : ∀ u ∈ t.args, ∀ n ∈ occ u, n ∈ occ t := fun u hu n hn => by
        rw [z8m k]
        have go : ∀ l : List Tm, u ∈ l → n ∈ occL l := by
          intro l
          induction l with
          | nil => intro h; cases h
          | cons x l ih =>
            intro h
            rw [occL, List.mem_append]
            rcases List.mem_cons.1 h with rfl | h
            · exact .inl hn
            · exact .inr (ih h)
        exact go _ hu
      have go : ∀ l : List Tm, (∀ u ∈ l, Fine (subO σ u)) → allL nodeS (l.map (subO σ)) = 0 := by
        intro l
        induction l with
        | nil => intro _; rfl
        | cons x l ih =>
          intro hl
          rw [List.map_cons, allL]
          have : allE nodeS (subO σ x) = 0 := hl x (by simp)
          rw [if_pos this]; exact ih fun u hu => hl u (List.mem_cons_of_mem _ hu)
      exact go t.args fun u hu => zbh m (by have := z0d hu; omega) (f.args u hu) fun n hn => hσ n (hocc u hu n hn)
theorem z8n {σ τ : Int → Option Tm} : ∀ (m : Nat) {t : Tm}, SizeOf.sizeOf t < m → Fine t → (∀ n ∈ occ t, (σ n).getD (varT n) = (τ n).getD (varT n)) → subO σ t = subO τ t
  | 0, t, h, _, _ => by omega
  | m + 1, t, h, f, hσ => by
    by_cases k : t.kind = 1
    · have := hσ t.var (by rw [z5s f k]; simp)
      rw [z3i k, z3i k]
      have e := zlf f k
      rw [← e] at this; exact this
    · rw [z5l k, z5l k]
      congr 1
      have hocc : ∀ u ∈ t.args, ∀ n ∈ occ u, n ∈ occ t := fun u hu n hn => by
        rw [z8m k]
        have go : ∀ l : List Tm, u ∈ l → n ∈ occL l := by
          intro l
          induction l with
          | nil => intro h; cases h
          | cons x l ih =>
            intro h
            rw [occL, List.mem_append]
            rcases List.mem_cons.1 h with rfl | h
            · exact .inl hn
            · exact .inr (ih h)
        exact go _ hu
      exact List.map_congr_left fun u hu => z8n m (by have := z0d hu; omega) (f.args u hu) fun n hn => hσ n (hocc u hu n hn)
end Go.Proofs.YtlllbkjiadcloaaDoor.hb
end

-- Pu5
section
namespace Go.Hb
open Go Go.RowKit
def BdV (H : Heap) (T : TypeId) (base : Nat) (v : Value) (L : List Bnd) : Prop :=
  (L = [] ∧ v = .slice none 0 0) ∨ ∃ b c, v = .slice (some ⟨b, 0, none⟩) L.length c ∧ L.length ≤ c ∧ c ≤ maxLen ∧ H.get b = some (.row (L.map Bnd.seven).flatten T) ∧ base ≤ b ∧ ∀ d ∈ L, ∀ n, d.e.S n → n < b
theorem z8o (L : List Bnd) : ((L.map Bnd.seven).flatten).length = L.length * 7 := by
  rw [z3e (s := 7) _ (fun x hx => by obtain ⟨d, -, rfl⟩ := List.mem_map.1 hx; rfl), List.length_map]
theorem zib (L : List Bnd) : ((L.map Bnd.seven).flatten).all one = true := by
  rw [List.all_eq_true]
  intro z hz
  obtain ⟨l, hl1, hl2⟩ := List.mem_flatten.1 hz
  obtain ⟨d, -, rfl⟩ := List.mem_map.1 hl1
  exact List.all_eq_true.1 (Bnd.seven_ones d) z hl2
theorem BdV.push {P : Program} {T t : TypeId} (hp : apOk P t T 7) {H : Heap} {base : Nat} {v : Value} {L : List Bnd} {x : Bnd} (h : BdV H T base v L) (hw : H.wf) (hm : L.length + 1 ≤ most) (hb : base ≤ H.next) (hS : ∀ d ∈ L ++ [x], ∀ n, d.e.S n → n < H.next) {lo : Nat} (hlo : ∀ b c, v = .slice (some ⟨b, 0, none⟩) L.length c → b < lo) (hxl : ∀ n, x.e.S n → lo ≤ n) :
    ∃ H2 v2, dAp P #[t, t] v (.slice (some ⟨H.next, 0, none⟩) 1 1) (H.new (some (.row x.seven T))) = some (.val v2 H2) ∧ BdV H2 T base v2 (L ++ [x]) ∧ HK (fun n => base ≤ n) H H2 ∧ ∀ d ∈ L ++ [x], ∀ n, d.e.S n → H2.get n = H.get n := by
  have hmax : L.length + 1 ≤ maxLen := Nat.le_trans hm (by simp [most, maxLen])
  have hl : (H.new (some (.row x.seven T))).load ⟨H.next, 0, none⟩ (1 * 7) = some x.seven := by rw [z30, Nat.one_mul]; rfl
  have hx1 := (HX.refl hw).new (some (.row x.seven T))
  rcases h with ⟨rfl, rfl⟩ | ⟨b, c, rfl, hlc, hcm, hg, hbb, hSb⟩
  · refine ⟨_, _, z6y hp (by omega) (by simp [most]) hl (Bnd.seven_ones x), .inr ⟨H.next + 1, 1, rfl, by simp, by simp [maxLen], ?_, by omega, fun d hd n hn => ?_⟩, ((hx1.new _).hk _), fun d hd n hn => by have := hS d hd n hn; rw [z16 (Nat.lt_succ_of_lt this), z16 this]⟩
    · have : ((H.new (some (.row x.seven T))).new (some (.row x.seven T))).get (H.next + 1) = some (.row x.seven T) := z0r
      simpa using this
    · have := hS d hd n hn; omega
  · have hbn := hw _ _ hg
    have hg1 : (H.new (some (.row x.seven T))).get b = some (.row (L.map Bnd.seven).flatten T) := by rw [z16 hbn]; exact hg
    have hfl := z8o L
    refine ⟨_, _, z6z hp (by omega) hm hl (Bnd.seven_ones x) hg1 (by omega) (by rw [List.take_of_length_le (by omega)]; exact zib L), .inr ⟨H.next + 1, L.length + 1, by simp; rfl, by simp, hmax, ?_, by omega, fun d hd n hn => ?_⟩, ?_, fun d hd n hn => ?_⟩
    · have : ((Heap.put (H.new (some (.row x.seven T))) b none).new (some (.row ((L.map Bnd.seven).flatten.take (L.length * 7) ++ x.seven) T))).get (H.next + 1) = some (.row ((L.map Bnd.seven).flatten.take (L.length * 7) ++ x.seven) T) := z0r
      rw [List.take_of_length_le (by omega)] at this ⊢
      simpa using this
    · have := hS d hd n hn; omega
    · exact ((hx1.hk (fun n => base ≤ n)).put (.inl hbb) (Nat.lt_succ_of_lt hbn) none).new _
    · have h2 := hS d hd n hn
      have h1 : n ≠ b := by
        rcases List.mem_append.1 hd with h | h
        · have := hSb d h n hn; omega
        · rw [List.mem_singleton] at h
          subst h
          have := hxl n hn
          have := hlo b c rfl
          omega
      rw [z16 (by rw [z0v]; exact Nat.lt_succ_of_lt (by omega)), z3q h1, z16 (by omega)]
theorem BdV.heap {H H' : Heap} {T : TypeId} {base : Nat} {v : Value} {L : List Bnd} (h : BdV H T base v L) (hx : HX H H') (hw : H.wf) : BdV H' T base v L := by
  rcases h with h | ⟨b, c, h1, h2, h3, h4, h5⟩
  · exact .inl h
  · exact .inr ⟨b, c, h1, h2, h3, hx.get hw h4, h5⟩
end Go.Hb
namespace Go.Proofs.YtlllbkjiadcloaaDoor.hb
open Go Go.RowKit Go.Hb
variable {ok : Ok}
set_option maxRecDepth 10000
attribute [local irreducible] LX LG EL STG SOP SGO SGD SAL SRD SEF SEG SLK SCK ES
theorem Pm.sig {α : Type} {a b : Nat} {D E : Nat → α} (h : Pm a b D E) : ∃ s t : Nat → Nat, (∀ k, t (s k) = k) ∧ (∀ k, s (t k) = k) ∧ (∀ k, a ≤ k → k < b → a ≤ s k ∧ s k < b) ∧ (∀ k, a ≤ k → k < b → a ≤ t k ∧ t k < b) ∧ ∀ k, E k = D (s k) := by
  obtain ⟨s, t, h1, h2, h3, h4⟩ := h
  refine ⟨s, t, h1, h2, fun k k1 k2 => ?_, fun k k1 k2 => ?_, h4⟩
  · by_cases hc : a ≤ s k ∧ s k < b
    · exact hc
    · have e := h3 (s k) (by omega)
      have e2 := h1 (s k)
      rw [e, h1 k] at e2
      omega
  · by_cases hc : a ≤ t k ∧ t k < b
    · exact hc
    · have e := h3 (t k) (by omega)
      rw [h2 k] at e
      omega
structure Told (t u : Tm) (L : List (Int × Tm)) : Prop where
  ex : ∃ M, matchS t u [] = some M ∧ FineB M ∧ ∀ p, p ∈ L ↔ p.1 ∈ occ t ∧ lookT M p.1 = some p.2
  srt : L.Pairwise fun p q => p.1 < q.1
def BsF (H : Heap) (S : Nat → Prop) (n : Nat) (a : Option Addr) (c : Nat) (D : Nat → Bnd) : Prop :=
  (n = 0 ∧ a = none ∧ c = 0) ∨ ∃ b, a = some ⟨b, 0, none⟩ ∧ n ≤ c ∧ c ≤ maxLen ∧ RowB H 59 b n D ∧ S b ∧
    (∀ k, k < n → Bd (D k).e.t ∧ FL H 26 (D k).e.S (D k).e.t.args (D k).e.a (D k).e.c ∧ ∀ x, (D k).e.S x → S x ∧ x ≠ b) ∧ (∀ j k x, j < n → k < n → (D j).e.S x → (D k).e.S x → j = k)
abbrev pairB (d : Bnd) : Int × Tm := (d.v, d.e.t)
def bnd0 : Bnd := ⟨0, ⟨zeroT, none, 0, fun _ => False⟩⟩
def atB (L : List Bnd) (k : Nat) : Bnd := (L[k]?).getD bnd0
theorem zbi {L : List Bnd} {k : Nat} (h : k < L.length) : atB L k = L[k] := by unfold atB; rw [List.getElem?_eq_getElem h]; rfl
theorem RowB.flat {H : Heap} {T : TypeId} {b : Nat} {L : List Bnd} (hg : H.get b = some (.row (L.map Bnd.seven).flatten T)) : RowB H T b L.length (atB L) :=
  ⟨_, hg, by rw [z8o]; exact Nat.le_refl _, fun k hk => by
    rw [zbi hk]
    exact z97 (s := 7) _ _ _ (fun x hx => by obtain ⟨d, -, rfl⟩ := List.mem_map.1 hx; rfl) (by rw [List.getElem?_map, List.getElem?_eq_getElem hk]; rfl)⟩
theorem z9l (l : List Int) (n : Int) : n ∈ uniq l ↔ n ∈ l := by
  have h : ∀ (l L : List Int), n ∈ l.foldl addU L ↔ n ∈ L ∨ n ∈ l := by
    intro l
    induction l with
    | nil => intro L; simp
    | cons m l ih =>
      intro L
      rw [List.foldl_cons, ih]
      have : n ∈ addU L m ↔ n ∈ L ∨ n = m := by
        unfold addU
        split
        · rename_i hm
          exact ⟨.inl, fun h => by rcases h with h | h; exact h; rw [h]; exact hm⟩
        · simp
      rw [this, List.mem_cons, or_assoc]
  have := h l []
  simpa [uniq] using this
theorem zic {t u : Tm} {M : List (Int × Tm)} {n : Nat} {BL : List Bnd} {D' : Nat → Bnd} (hM : matchS t u [] = some M) (hf : FineB M) (hdom : ∀ k ∈ occ t, lookT M k ≠ none) (hn : BL.length = n) (hb : BL.map pairB = (uniq (occ t)).map fun k => (k, (lookT M k).getD zeroT)) (hp : Pm 0 n (atB BL) D') (hz : InZ Bnd.v 0 n D') :
    Told t u ((rowF n D').map pairB) := by
  obtain ⟨s, r, h1, h2, h3, h4, h5⟩ := Pm.sig hp
  have hlen : (uniq (occ t)).length = n := by have := congrArg List.length hb; simp at this; omega
  have hat : ∀ (k : Nat) (hk : k < n), pairB (atB BL k) = ((uniq (occ t))[k]'(by omega), (lookT M ((uniq (occ t))[k]'(by omega))).getD zeroT) := fun k hk => by
    rw [zbi (by omega)]
    have := congrArg (fun l => l[k]?) hb
    simp only [List.getElem?_map] at this
    rw [List.getElem?_eq_getElem (by omega), List.getElem?_eq_getElem (by omega)] at this
    simpa using this
  have hnd := zfl (occ t)
  refine ⟨⟨M, hM, hf, fun p => ?_⟩, ?_⟩
  · constructor
    · intro hp
      obtain ⟨d, hd, rfl⟩ := List.mem_map.1 hp
      obtain ⟨k, hk, rfl⟩ := List.mem_map.1 hd
      have hk := List.mem_range.1 hk
      rw [h5 k]
      have hs := (h3 k (Nat.zero_le _) hk).2
      have e := hat _ hs
      have hm : (uniq (occ t))[s k]'(by omega) ∈ occ t := (z9l _ _).1 (List.getElem_mem _)
      rw [e]
      refine ⟨hm, ?_⟩
      show lookT M _ = some ((lookT M _).getD zeroT)
      cases hq : lookT M ((uniq (occ t))[s k]'(by omega)) with
      | none => exact absurd hq (hdom _ hm)
      | some w => rfl
    · rintro ⟨ho, hl⟩
      obtain ⟨j, hj, ej⟩ := List.getElem_of_mem ((z9l _ _).2 ho)
      have hjn : j < n := by omega
      refine List.mem_map.2 ⟨D' (r j), List.mem_map.2 ⟨r j, List.mem_range.2 (h4 j (Nat.zero_le _) hjn).2, rfl⟩, ?_⟩
      rw [h5, h2, hat j hjn]
      obtain ⟨p1, p2⟩ := p
      simp only at ej hl
      subst ej
      rw [hl]; rfl
  · rw [List.pairwise_map]
    unfold rowF
    rw [List.pairwise_map, List.pairwise_iff_getElem]
    intro i j hi hj hij
    simp at hi hj
    simp only [List.getElem_range]
    have hle := hz i j (Nat.zero_le _) hij hj
    rcases Int.lt_or_eq_of_le hle with h | h
    · exact h
    · exfalso
      rw [h5 i, h5 j] at h
      have si := (h3 i (Nat.zero_le _) hi).2
      have sj := (h3 j (Nat.zero_le _) hj).2
      have e1 := congrArg Prod.fst (hat _ si)
      have e2 := congrArg Prod.fst (hat _ sj)
      simp only at e1 e2
      have e3 : (uniq (occ t))[s i]'(by omega) = (uniq (occ t))[s j]'(by omega) := by rw [← e1, ← e2]; exact h
      have hpw := List.pairwise_iff_getElem.1 hnd
      have e4 : s i = s j := by
        rcases Nat.lt_or_ge (s i) (s j) with q | q
        · exact absurd e3 (hpw _ _ (by omega) (by omega) q)
        · rcases Nat.lt_or_ge (s j) (s i) with q2 | q2
          · exact absurd e3.symm (hpw _ _ (by omega) (by omega) q2)
          · omega
      have e5 := h1 i
      rw [e4, h1 j] at e5
      omega
theorem zbj {H : Heap} (hw : H.wf) : EvF Tryd.prog okT 113 [.slice none 0 0, .int .i64 0, .int .i64 0, cvB] H fun _ H' => H' = H := by
  refine EvF.enter rfl Tryd.func113 (by decide) rfl ?_
  have hw1 : IntKind.i64.wrap ((0 : Int) + 1) = 1 := rfl
  have hd : decide ((1 : Int) < 0) = false := rfl
  (repeat refine EvC.seq ?_); refine EvC.reg ?_; simp (config := { maxSteps := 2000000 }) (disch := first | omega | rfl) only [sB, initTm, Nat.reduceEqDiff, Nat.reduceAdd, reduceCtorEq, hw1]
  refine EvC.block (EvC.loop1 ?_)
  repeat' (first | refine EvC.seq ?_ | refine EvC.scope ?_ | refine EvC.block ?_ | (refine EvC.skip ?_) | (refine EvC.exit ?_; try simp only [sB]) | (refine EvC.ret ?_; try simp only [z01, z00]) | (refine EvC.reg ?_; simp (config := { maxSteps := 2000000 }) (disch := first | omega | rfl) only [sB, Nat.reduceEqDiff, reduceCtorEq, hd]) | (refine EvC.condT ?_ ?_; simp (config := { maxSteps := 2000000 }) (disch := first | omega | rfl) only [sB, Nat.reduceEqDiff, reduceCtorEq]; refine z03 ?_) | (refine EvC.condF ?_ ?_; simp (config := { maxSteps := 2000000 }) (disch := first | omega | rfl) only [sB, Nat.reduceEqDiff, reduceCtorEq]; refine z03 ?_))
  exact z0l rfl rfl
theorem zid {lim : Nat} {H : Heap} (hw : H.wf) : EvF Tryd.prog okT 97 [.slice none 0 0, .int .i64 0, .int .i64 0, .int .i64 (lim : Nat), cvB] H fun _ H' => H' = H := by
  refine EvF.enter rfl Tryd.func97 (by decide) rfl ?_
  have hwl : IntKind.i64.wrap ((0 : Int) - 0) = 0 := rfl
  have hd : decide ((0 : Int) ≤ 12) = true := rfl
  (repeat refine EvC.seq ?_); refine EvC.reg ?_; simp (config := { maxSteps := 2000000 }) (disch := first | omega | rfl) only [sA, initTm, Nat.reduceAdd]
  (repeat refine EvC.seq ?_); refine EvC.reg ?_; simp (config := { maxSteps := 2000000 }) (disch := first | omega | rfl) only [sA]
  (repeat refine EvC.seq ?_)
  refine EvC.block (EvC.loop1 ?_)
  (repeat refine EvC.seq ?_)
  refine EvC.block ?_
  repeat' (first | refine EvC.seq ?_ | refine EvC.scope ?_ | refine EvC.block ?_ | (refine EvC.skip ?_) | (refine EvC.exit ?_) | (refine EvC.ret ?_; try simp only [z01, z00]) | (refine EvC.reg ?_; simp (config := { maxSteps := 2000000 }) (disch := first | omega | rfl) only [sB, Nat.reduceEqDiff, reduceCtorEq, zls, hwl, hd]) | (refine EvC.condT ?_ ?_; simp (config := { maxSteps := 2000000 }) (disch := first | omega | rfl) only [sB, Nat.reduceEqDiff, reduceCtorEq]; refine z03 ?_))
  refine (zbj hw).mono ?_
  rintro v H2 rfl
  repeat' (first | refine EvC.seq ?_ | refine EvC.scope ?_ | refine EvC.block ?_ | (refine EvC.skip ?_) | (refine EvC.exit ?_) | (refine EvC.ret ?_; try simp only [z01, z00]))
  exact z2b rfl rfl
theorem zft {H : Heap} (hw : H.wf) : EvF Tryd.prog okT 81 [.slice none 0 0, cvB] H fun _ H' => H' = H := by
  refine EvF.enter rfl Tryd.func81 (by decide) rfl ?_
  have hu : IntKind.u64.wrap ((0 : Nat) : Int) = ((0 : Nat) : Int) := rfl
  repeat' (first | refine EvC.seq ?_ | refine EvC.scope ?_ | refine EvC.block ?_ | (refine EvC.skip ?_) | (refine EvC.exit ?_) | (refine EvC.ret ?_; try simp only [z01, z00]) | (refine EvC.reg ?_; simp (config := { maxSteps := 2000000 }) (disch := first | omega | rfl) only [sB, initTm, Nat.reduceEqDiff, reduceCtorEq, ln57, zca, cl98, cl97, hu]))
  refine (zi6 (x := 0) (by omega)).mono ?_
  rintro v H2 ⟨rfl, rfl⟩
  repeat' (first | refine EvC.seq ?_ | refine EvC.scope ?_ | refine EvC.block ?_ | (refine EvC.skip ?_) | (refine EvC.exit ?_) | (refine EvC.ret ?_; try simp only [z01, z00]))
  refine (zid hw).mono ?_
  rintro v H3 rfl
  repeat' (first | refine EvC.seq ?_ | refine EvC.scope ?_ | refine EvC.block ?_ | (refine EvC.skip ?_) | (refine EvC.exit ?_) | (refine EvC.ret ?_; try simp only [z01, z00]))
  exact z0l rfl rfl
end Go.Proofs.YtlllbkjiadcloaaDoor.hb
end

-- Pu7
section
namespace Go.Proofs.YtlllbkjiadcloaaDoor.hb
open Go Go.RowKit Go.Hb
variable {ok : Ok}
set_option maxRecDepth 10000
attribute [local irreducible] LX LG EL STG SOP SGO SGD SAL SRD SEF SEG SLK SCK ES
set_option maxHeartbeats 16000000 in
theorem zk6 {t u : Tm} {cs cu : List Value} {H : Heap} (r0 : RepT H t cs) (r1 : RepT H u cu) (hw : H.wf) :
    EvF Tryd.prog okT 43 [.agg ⟨cs⟩, .agg ⟨cu⟩] H fun v H' => HX H H' ∧
      ((chkL [t, u] = 0 ∧ ∃ n a c D, v = .tuple ⟨[.slice a n c, .bool true, .int .i64 0]⟩ ∧ BsF H' (Rg H.next H'.next) n a c D ∧ n ≤ 4000 ∧ Told t u ((rowF n D).map pairB)) ∨
        (chkL [t, u] = 0 ∧ matchS t u [] = none ∧ v = .tuple ⟨[.slice none 0 0, .bool false, .int .i64 0]⟩) ∨
        (chkL [t, u] ≠ 0 ∧ v = .tuple ⟨[.slice none 0 0, .bool false, .int .i64 (chkL [t, u])]⟩)) := by
  have r00 := r0; have r10 := r1
  have hcall : callable Tryd.prog 80 = true := by kernel_rfl
  obtain ⟨a, c, cells, rfl, -, -, -, -, -, rl⟩ := r0.six
  obtain ⟨a', c', cells', rfl, -, -, -, -, -, rl'⟩ := r1.six
  refine EvF.enter rfl Tryd.func43 (by decide) rfl ?_
  (repeat refine EvC.seq ?_); refine EvC.reg ?_; simp (config := { maxSteps := 2000000 }) (disch := first | omega | rfl) only [sB, initTm, dBox, Nat.reduceEqDiff, Value.cells, one, reduceCtorEq]
  obtain ⟨H2, e2, hx2, gt, gu, hn2, hw2⟩ := new2 hw (.row (six t a c) 26) (.row (six u a' c') 26)
  simp only [e2]
  have q1 := row6 gt
  have q2 := row6 gu
  clear e2
  repeat' (first | refine EvC.seq ?_ | refine EvC.scope ?_ | refine EvC.block ?_ | (refine EvC.skip ?_) | (refine EvC.exit ?_) | (refine EvC.ret ?_; try simp only [z01, z00]) | (refine EvC.reg ?_; simp (config := { maxSteps := 2000000 }) (disch := first | omega | rfl) only [sB, Nat.reduceEqDiff, Nat.reduceAdd, Value.cells, one, reduceCtorEq, Nat.reduceLeDiff, layC, ld26, zl0, cl52, q1, q2]))
  obtain ⟨H3, e3, hx3, g3, hn3, hw3⟩ := new1 hw2 (.row (six t a c ++ six u a' c') 26)
  have e3' := e3
  simp only [six, List.cons_append, List.nil_append] at e3'
  simp only [e3']
  clear e3 e3'
  have hx23 := hx2.trans hx3
  refine (zaz (RepL.two (r00.mono hx23 hw) (r10.mono hx23 hw) g3) hw3).mono ?_
  rintro v H4 ⟨rfl, hx4⟩
  have hx := hx23.trans hx4
  have gt := hx4.get hw3 (hx3.get hw2 gt)
  have gu := hx4.get hw3 (hx3.get hw2 gu)
  by_cases h0 : chkL [t, u] = 0
  rotate_left
  · repeat' (first | refine EvC.seq ?_ | refine EvC.scope ?_ | refine EvC.block ?_ | (refine EvC.skip ?_) | (refine EvC.exit ?_) | (refine EvC.ret ?_; try simp only [z01, z00]) | (refine EvC.reg ?_; simp (config := { maxSteps := 2000000 }) (disch := first | omega | rfl) only [sB, Nat.reduceEqDiff, reduceCtorEq, z31 h0]) | (refine EvC.condT ?_ ?_; simp (config := { maxSteps := 2000000 }) (disch := first | omega | rfl) only [sB, Nat.reduceEqDiff, reduceCtorEq]; refine z03 ?_))
    exact z3d rfl (by simp only [sG, Nat.reduceEqDiff, reduceCtorEq] <;> rfl) (by simp only [sG, Nat.reduceEqDiff, reduceCtorEq] <;> rfl) (by simp only [sG, Nat.reduceEqDiff, reduceCtorEq] <;> rfl) ⟨hx, .inr (.inr ⟨h0, rfl⟩)⟩
  have hct : checkS t = 0 := z3w h0 t (by simp)
  have hcu : checkS u = 0 := z3w h0 u (by simp)
  have hft := (z0p.1 hct).2
  have hfu := (z0p.1 hcu).2
  have n4 := hx.next
  have n24 := hx2.next
  clear hx23 q1 q2 g3 hn3
  try simp (config := { maxSteps := 2000000 }) (disch := first | omega | rfl) only []
  (repeat refine EvC.seq ?_); refine EvC.reg ?_; simp (config := { maxSteps := 2000000 }) (disch := first | omega | rfl) only [sB, Nat.reduceEqDiff, reduceCtorEq, z17 h0]
  (repeat refine EvC.seq ?_); refine EvC.condF (by simp (config := { maxSteps := 2000000 }) (disch := first | omega | rfl) only [sB, Nat.reduceEqDiff, reduceCtorEq]) ?_; (try refine EvC.skip ?_); (try simp only [z02, z09])
  (repeat refine EvC.seq ?_); refine EvC.reg ?_; simp (config := { maxSteps := 2000000 }) (disch := first | omega | rfl) only [sB, dAlloc, Nat.reduceEqDiff, one, reduceCtorEq, zr93, st93, z4m]
  obtain ⟨H5, e5, k5, gr, n5, w5⟩ := new1 hx.wf (.map [] 0)
  obtain ⟨H6, e6, k6, gp, n6, w6⟩ := z0u w5 (.row [.map none] 93) (.row [.map (some H4.next)] 93)
  rw [n5] at e6 gp n6
  simp only [e5, e6]
  have gr := k6.get w5 gr
  have k56 := k5.trans k6
  have gt := k56.get hx.wf gt
  have gu := k56.get hx.wf gu
  have hm0 : MapT H H6 H4.next [] := ⟨[], ⟨[], 0, gr, rfl⟩, fun n => ⟨fun u hu => by simp [lookT] at hu, fun _ => rfl⟩⟩
  have hx := hx.trans k56
  clear e5 e6 k5 k6 k56 gr
  (repeat refine EvC.seq ?_); refine EvC.reg ?_; simp (config := { maxSteps := 2000000 }) (disch := first | omega | rfl) only [sA, dAlloc, zr35]
  (repeat refine EvC.seq ?_); refine EvC.reg ?_; simp (config := { maxSteps := 2000000 }) (disch := first | omega | rfl) only [sB, Nat.reduceEqDiff, one, reduceCtorEq, st35, List.map_toArray]
  obtain ⟨H7, e7, k7, gf, n7, w7⟩ := z0u w6 (.row [.nilFunc] 35) (.row [.func (.func 80) #[] #[.pointer (some ⟨H4.next + 1, 0, none⟩), .pointer (some ⟨H6.next, 0, none⟩)]] 35)
  simp only [e7]
  clear e7
  have gp := k7.get w6 gp
  have gt := k7.get w6 gt
  have gu := k7.get w6 gu
  have hm0 := hm0.keep k7 w6
  have hx := hx.trans k7
  have q1 := row6 gt
  have q2 := row6 gu
  have lf := row1 gf
  have hrr : H.next ≤ H4.next := n4
  have hpr : H4.next + 1 ≠ H4.next := by omega
  have hfr : H6.next ≠ H4.next := by omega
  have hrt : H.next + 2 ≤ H4.next := by have := hx4.next; have := hx3.next; omega
  generalize H4.next + 1 = p at *
  generalize H4.next = r at *
  generalize H6.next = f at *
  clear n5 n6 n7 n4 n24 hn2 hx2 hx3 hx4 k7 w6 hw2 hw3
  (repeat refine EvC.seq ?_); refine EvC.reg ?_; simp (config := { maxSteps := 2000000 }) (disch := first | omega | rfl) only [sB, Nat.reduceEqDiff, reduceCtorEq, ld26, ld35, q1, q2, lf, z0o, z0f hcall]
  refine (zn2 hw hpr hfr hrr _ (Nat.lt_succ_self _) r00 r10 hft hfu (M := []) (fun p hp => by cases hp) hx gp gf hm0).mono ?_
  rintro v H9 ⟨k9, h9⟩
  have hx9 : HX H H9 := hx.then k9 (fun n hn q => by have q' : n = r := q; omega)
  rcases h9 with ⟨M, eM, rfl, hm9, hfM⟩ | ⟨eN, rfl⟩
  rotate_left
  · repeat' (first | refine EvC.seq ?_ | refine EvC.scope ?_ | refine EvC.block ?_ | (refine EvC.skip ?_) | (refine EvC.exit ?_) | (refine EvC.ret ?_; try simp only [z01, z00]) | (refine EvC.reg ?_; simp (config := { maxSteps := 2000000 }) (disch := first | omega | rfl) only [sA]) | (refine z0t ?_; simp (config := { maxSteps := 2000000 }) (disch := first | omega | rfl) only [sA, Bool.not_false]) | (refine EvC.condT ?_ ?_; simp (config := { maxSteps := 2000000 }) (disch := first | omega | rfl) only [sB, Nat.reduceEqDiff, reduceCtorEq]; refine z03 ?_))
    exact z3d rfl (by simp only [sG, Nat.reduceEqDiff, reduceCtorEq] <;> rfl) (by simp only [sG, Nat.reduceEqDiff, reduceCtorEq] <;> rfl) (by simp only [sG, Nat.reduceEqDiff, reduceCtorEq] <;> rfl) ⟨hx9, .inr (.inl ⟨h0, eN, rfl⟩)⟩
  have gt9 := k9.get hx.wf gt (by omega)
  have gp9 := k9.get hx.wf gp hpr
  have q19 := row6 gt9
  repeat' (first | refine EvC.seq ?_ | refine EvC.scope ?_ | refine EvC.block ?_ | (refine EvC.skip ?_; try simp only [z02]) | (refine EvC.exit ?_) | (refine EvC.ret ?_; try simp only [z01, z00]) | (refine EvC.reg ?_; simp (config := { maxSteps := 2000000 }) (disch := first | omega | rfl) only [sB, Nat.reduceEqDiff, Nat.reduceAdd, Value.cells, one, reduceCtorEq, layC, ld26, zl2, cl66, q19]) | (refine z0t ?_; simp (config := { maxSteps := 2000000 }) (disch := first | omega | rfl) only [sA, Bool.not_true]) | (refine EvC.condT ?_ ?_; simp (config := { maxSteps := 2000000 }) (disch := first | omega | rfl) only [sB, Nat.reduceEqDiff, reduceCtorEq]; refine z03 ?_) | (refine EvC.condF ?_ ?_; simp (config := { maxSteps := 2000000 }) (disch := first | omega | rfl) only [sB, Nat.reduceEqDiff, reduceCtorEq]; refine z03 ?_))
  obtain ⟨H10, e10, k10, g10, n10, w10⟩ := new1 hx9.wf (.row (six t a c) 26)
  simp only [e10]
  clear e10
  have hx10 := hx9.trans k10
  have eo : occL [t] = occ t := by rw [occL, occL, List.append_nil]
  have hfew := zmx hct
  have hul := ze8 (occ t)
  refine (zb0 (RepL.one (r00.mono hx10 hw) g10) (by rw [eo]; unfold most; omega) w10).mono ?_
  rw [eo]
  rintro v H11 ⟨hI, k11⟩
  obtain ⟨va, vc, rfl, hvl, hvm⟩ := hI.slice
  have k911 := k10.trans k11
  have gp11 := k911.get hx9.wf gp9
  have hm11 := hm9.keep k911 hx9.wf
  have hx11 := hx10.trans k11
  have hb11 := hx11.next
  have w11 := hx11.wf
  have hdom := (zbg _ (Nat.lt_succ_self _) hft eM).2
  clear q19 q1 q2 lf gt gu gf gp gt9 gp9 hm9 hm0 k9 k10 k11 k911 g10 n10 w10 hx10 hx9 hx
  repeat' (first | refine EvC.seq ?_ | refine EvC.scope ?_ | refine EvC.block ?_ | (refine EvC.skip ?_) | (refine EvC.exit ?_) | (refine EvC.ret ?_; try simp only [z01, z00]) | (refine z0t ?_; simp (config := { maxSteps := 2000000 }) (disch := first | omega | rfl) only [sA, ln46]))
  refine EvC.loop (fun k st => ∃ tm H' BL v, st = ⟨tm, [], H'⟩ ∧ k = (uniq (occ t)).length - BL.length ∧ BL.length ≤ (uniq (occ t)).length ∧ tm.get 8 = some (.pointer (some ⟨p, 0, none⟩)) ∧ tm.get 10 = some v ∧ tm.get 29 = some (.slice va (uniq (occ t)).length vc) ∧ tm.get 30 = some (.int .i64 (uniq (occ t)).length) ∧ tm.get 31 = some (.int .i64 (BL.length : Nat)) ∧
    BdV H' 59 H11.next v BL ∧ BL.map pairB = ((uniq (occ t)).take BL.length).map (fun k => (k, (lookT M k).getD zeroT)) ∧ (∀ d ∈ BL, Bd d.e.t ∧ FL H' 26 d.e.S d.e.t.args d.e.a d.e.c ∧ ∀ x, d.e.S x → H11.next ≤ x ∧ x < H'.next) ∧
    BL.Pairwise (fun d e => ∀ x, d.e.S x → ¬ e.e.S x) ∧ HX H11 H') ?_ (uniq (occ t)).length _ ?_
  rotate_left
  · exact ⟨_, _, [], _, rfl, rfl, Nat.zero_le _, (by simp only [sG, Nat.reduceEqDiff, reduceCtorEq] <;> rfl), (by simp only [sG, Nat.reduceEqDiff, reduceCtorEq] <;> rfl), (by simp only [sG, Nat.reduceEqDiff, reduceCtorEq] <;> rfl), (by simp only [sG, Nat.reduceEqDiff, reduceCtorEq] <;> rfl), (by simp only [sB, Nat.reduceEqDiff, reduceCtorEq] <;> rfl), .inl ⟨rfl, rfl⟩, by simp, (fun d hd => by cases hd), List.Pairwise.nil, HX.refl w11⟩
  rintro k st ⟨tm, G, BL, v, rfl, rfl, hi, t8, t10, t29, t30, t31, hbd, hpb, hel, hdj, hxG⟩
  have wG := hxG.wf
  by_cases hlt : BL.length < (uniq (occ t)).length
  · obtain ⟨vb, rfl, -, hld, -⟩ := hI.at hlt
    have hld := hxG.load w11 hld
    have hmem : (uniq (occ t))[BL.length] ∈ occ t := (z9l _ _).1 (List.getElem_mem _)
    have lpG := row1 (hxG.get w11 gp11)
    obtain ⟨MM, hM, hMn⟩ := hm11.keep hxG w11
    rcases z5c (lookT M (uniq (occ t))[BL.length]) with ⟨w, hl⟩ | hl
    rotate_left
    · exact absurd hl (hdom _ hmem)
    obtain ⟨csw, hg, hrw⟩ := (hMn _).1 w hl
    obtain ⟨a1, c1, cells1, rfl, -⟩ := hrw.six
    have htk : (uniq (occ t)).take (BL.length + 1) = (uniq (occ t)).take BL.length ++ [(uniq (occ t))[BL.length]] := by rw [← List.take_append_getElem hlt]
    generalize (uniq (occ t))[BL.length] = nn at *
    repeat' (first | refine EvC.seq ?_ | refine EvC.scope ?_ | refine EvC.block ?_ | (refine EvC.skip ?_; try simp only [z02]) | (refine EvC.exit ?_) | (refine EvC.ret ?_; try simp only [z01, z00]) | (refine EvC.reg ?_; simp (config := { maxSteps := 2000000 }) (disch := first | omega | rfl) only [sB, Nat.reduceEqDiff, Nat.reduceAdd, Value.cells, one, Nat.reduceLeDiff, layC, ia46, ld3, ld93, cl61, bd59, t8, t10, t29, t30, t31, decl hlt, hld, lpG, z10, z43 z7m hM hg, Bool.false_eq_true]) | (refine EvC.condT ?_ ?_; simp (config := { maxSteps := 2000000 }) (disch := first | omega | rfl) only [sB]; refine z03 ?_))
    have hxx := hx11.trans hxG
    refine (z5j (Nat.lt_succ_self _) (hrw.mono hxx hw) (hfM _ (z34 hl)) wG).mono ?_
    rintro v2 H12 ⟨cs', rfl, ⟨a2, c2, rfl, hb2, hf2⟩, k12⟩
    have w12 := k12.wf
    have n12 := k12.next
    have nG := hxG.next
    have hlo : ∀ b c, v = .slice (some ⟨b, 0, none⟩) BL.length c → b < G.next := fun b c e => by
      rcases hbd with ⟨-, h⟩ | ⟨b', c', h, -, -, hg', -⟩
      · rw [h] at e; cases e
      · rw [h] at e; cases e; exact wG _ _ hg'
    obtain ⟨H13, v3, hpush, hbd3, k13, keep13⟩ := (hbd.heap k12 wG).push (x := ⟨nn, ⟨w, a2, c2, Rg G.next H12.next⟩⟩) ap57 w12 (by unfold most; omega) (by omega) (fun d hd n hn => by
      rcases List.mem_append.1 hd with h | h
      · have := ((hel d h).2.2 n hn).2; omega
      · rw [List.mem_singleton] at h; subst h; exact hn.2) hlo (fun n hn => hn.1)
    repeat' (first | refine EvC.seq ?_ | refine EvC.scope ?_ | refine EvC.block ?_ | (refine EvC.skip ?_) | (refine EvC.exit ?_) | (refine EvC.ret ?_; try simp only [z01, z00]) | (refine EvC.reg ?_; simp (config := { maxSteps := 2000000 }) (disch := first | omega | rfl) only [sB, Nat.reduceEqDiff, t31, z05]) | (refine z0t ?_; simp (config := { maxSteps := 2000000 }) (disch := first | omega | rfl) only [sB, Nat.reduceEqDiff, Nat.reduceAdd, Value.cells, one, layC, znf, hpush]))
    have hx13 : HX H11 H13 := (hxG.trans k12).then k13 (fun n hn q => by have q' : H11.next ≤ n := q; omega)
    have n13 := k13.next
    refine ⟨(uniq (occ t)).length - (BL.length + 1), by omega, _, _, BL ++ [⟨nn, ⟨w, a2, c2, Rg G.next H12.next⟩⟩], v3, rfl, by simp, by simp; omega, (by simp only [sG, Nat.reduceEqDiff, t8] <;> rfl), (by simp only [sG, Nat.reduceEqDiff] <;> rfl), (by simp only [sG, Nat.reduceEqDiff, t29] <;> rfl), (by simp only [sG, Nat.reduceEqDiff, t30] <;> rfl), by simp only [List.length_append, List.length_singleton]; first | (simp only [sB, Nat.reduceEqDiff]; rfl) | simp only [], hbd3, ?_, fun d hd => ?_, ?_, hx13⟩
    · rw [List.map_append, hpb, List.length_append, List.length_singleton, htk, List.map_append]
      simp [hl]
    · have hk := keep13 d hd
      rcases List.mem_append.1 hd with h | h
      · obtain ⟨b1, b2, b3⟩ := hel d h
        exact ⟨b1, (b2.keep k12 wG).heap (fun n hn _ => hk n hn) w12, fun x hx => ⟨(b3 x hx).1, by have := (b3 x hx).2; omega⟩⟩
      · rw [List.mem_singleton] at h
        subst h
        exact ⟨hb2, hf2.heap (fun n hn _ => hk n hn) w12, fun x hx => ⟨by have := hx.1; omega, by have := hx.2; omega⟩⟩
    · rw [List.pairwise_append]
      refine ⟨hdj, List.pairwise_singleton .., fun d hd e he x hx hx2 => ?_⟩
      rw [List.mem_singleton] at he
      subst he
      have := ((hel d hd).2.2 x hx).2
      have := hx2.1
      omega
  · have hN : BL.length = (uniq (occ t)).length := by omega
    rw [hN, List.take_of_length_le (Nat.le_refl _)] at hpb
    have hxGG := hx11.trans hxG
    rcases hbd with ⟨rfl, rfl⟩ | ⟨b, cc, rfl, hlc, hcm, hg, hbb, hSb⟩
    · have hd0 : decide (((0 : Nat) : Int) < ((uniq (occ t)).length : Int)) = false := decide_eq_false (by simp at hN; omega)
      repeat' (first | refine EvC.seq ?_ | refine EvC.scope ?_ | refine EvC.block ?_ | (refine EvC.skip ?_) | (refine EvC.exit ?_; try simp only [sB]) | (refine EvC.ret ?_; try simp only [z01, z00]) | (refine EvC.reg ?_; simp (config := { maxSteps := 2000000 }) (disch := first | omega | rfl) only [sB, Nat.reduceEqDiff, cl81, t10, t30, t31, hd0]) | (refine EvC.condT ?_ ?_; simp (config := { maxSteps := 2000000 }) (disch := first | omega | rfl) only [sB]; refine z03 ?_) | (refine EvC.condF ?_ ?_; simp (config := { maxSteps := 2000000 }) (disch := first | omega | rfl) only [sB]; refine z03 ?_))
      refine (zft wG).mono ?_
      rintro v G2 rfl
      repeat' (first | refine EvC.seq ?_ | refine EvC.scope ?_ | refine EvC.block ?_ | (refine EvC.skip ?_) | (refine EvC.exit ?_) | (refine EvC.ret ?_; try simp only [z01, z00]) | (refine EvC.reg ?_; simp (config := { maxSteps := 2000000 }) (disch := first | omega | rfl) only [sB, Nat.reduceEqDiff, t10]))
      exact z3d rfl (by simp only [sG, Nat.reduceEqDiff] <;> rfl) (by simp only [sG, Nat.reduceEqDiff] <;> rfl) (by simp only [sG, Nat.reduceEqDiff] <;> rfl) ⟨hxGG, .inl ⟨h0, 0, none, 0, atB [], rfl, .inl ⟨rfl, rfl, rfl⟩, by omega, zic eM hfM hdom rfl hpb (Pm.refl _) (InZ.few (by omega))⟩⟩
    · repeat' (first | refine EvC.seq ?_ | refine EvC.scope ?_ | refine EvC.block ?_ | (refine EvC.skip ?_) | (refine EvC.exit ?_; try simp only [sB]) | (refine EvC.ret ?_; try simp only [z01, z00]) | (refine EvC.reg ?_; simp (config := { maxSteps := 2000000 }) (disch := first | omega | rfl) only [sB, Nat.reduceEqDiff, cl81, t10, t30, t31, decn hlt]) | (refine EvC.condT ?_ ?_; simp (config := { maxSteps := 2000000 }) (disch := first | omega | rfl) only [sB]; refine z03 ?_) | (refine EvC.condF ?_ ?_; simp (config := { maxSteps := 2000000 }) (disch := first | omega | rfl) only [sB]; refine z03 ?_))
      refine (zk5 (RowB.flat hg) (by unfold most; omega) wG).mono ?_
      rintro v G2 ⟨D', r14, m14, i14, k14⟩
      repeat' (first | refine EvC.seq ?_ | refine EvC.scope ?_ | refine EvC.block ?_ | (refine EvC.skip ?_) | (refine EvC.exit ?_) | (refine EvC.ret ?_; try simp only [z01, z00]) | (refine EvC.reg ?_; simp (config := { maxSteps := 2000000 }) (disch := first | omega | rfl) only [sB, Nat.reduceEqDiff, t10]))
      have n14 := k14.next
      have hbG := wG _ _ hg
      obtain ⟨s, rr, h1, h2, h3, h4, h5⟩ := Pm.sig m14
      have hmemB : ∀ k, k < BL.length → D' k ∈ BL := fun k hk => by
        have := (h3 k (Nat.zero_le _) hk).2
        rw [h5, zbi this]; exact List.getElem_mem _
      refine z3d rfl (by simp only [sG, Nat.reduceEqDiff] <;> rfl) (by simp only [sG, Nat.reduceEqDiff] <;> rfl) (by simp only [sG, Nat.reduceEqDiff] <;> rfl) ⟨hxGG.then k14 (fun n hn q => by have q' : n = b := q; omega), .inl ⟨h0, BL.length, some ⟨b, 0, none⟩, cc, D', rfl, .inr ⟨b, rfl, hlc, hcm, r14, ⟨by omega, by omega⟩, fun k hk => ?_, fun j k x hj hk hxj hxk => ?_⟩, by omega, zic eM hfM hdom rfl hpb m14 i14⟩⟩
      · obtain ⟨b1, b2, b3⟩ := hel _ (hmemB k hk)
        exact ⟨b1, b2.beside k14 wG (fun n hn q => by have q' : n = b := q; have := hSb _ (hmemB k hk) n hn; omega), fun x hx => ⟨⟨by have := (b3 x hx).1; omega, by have := (b3 x hx).2; omega⟩, by have := hSb _ (hmemB k hk) x hx; omega⟩⟩
      · have sj := (h3 j (Nat.zero_le _) hj).2
        have sk := (h3 k (Nat.zero_le _) hk).2
        rw [h5, zbi sj] at hxj
        rw [h5, zbi sk] at hxk
        have hpw := List.pairwise_iff_getElem.1 hdj
        have e : s j = s k := by
          rcases Nat.lt_or_ge (s j) (s k) with q | q
          · exact absurd hxk (hpw _ _ sj sk q x hxj)
          · rcases Nat.lt_or_ge (s k) (s j) with q2 | q2
            · exact absurd hxj (hpw _ _ sk sj q2 x hxk)
            · omega
        have e1 := h1 j
        rw [e, h1 k] at e1
        exact e1.symm
end Go.Proofs.YtlllbkjiadcloaaDoor.hb
end

-- V10
section
namespace Go.Proofs.YtlllbkjiadcloaaDoor.hb
open Go Go.RowKit Go.Hb
variable {ok : Ok}
set_option maxRecDepth 10000
attribute [local irreducible] LX LG EL STG SOP SGO SGD SAL SRD SEF SEG SLK SCK ES
end Go.Proofs.YtlllbkjiadcloaaDoor.hb
end

-- Y11
section
namespace Go.Proofs.YtlllbkjiadcloaaDoor.hb
open Go Go.RowKit Go.Hb
variable {ok : Ok}
set_option maxRecDepth 10000
attribute [local irreducible] LX LG EL STG SOP SGO SGD SAL SRD SEF SEG SLK SCK ES
theorem zcu {H : Heap} (hw : H.wf) : EvF Tryd.prog okT 12 [] H fun v H' => v = .bool true ∧ HX H H' := zj5 hw
end Go.Proofs.YtlllbkjiadcloaaDoor.hb
end

-- V11
section
namespace Go.Hb
open Go Go.RowKit
end Go.Hb
namespace Go.Proofs.YtlllbkjiadcloaaDoor.hb
open Go Go.RowKit Go.Hb
variable {ok : Ok}
set_option maxRecDepth 10000
attribute [local irreducible] LX LG EL STG SOP SGO SGD SAL SRD SEF SEG SLK SCK ES
theorem zei (t : Tm) : eqT t t = true := zjr rfl
theorem zk7 (l : List Tm) : eqL l l = true := zo4 rfl
end Go.Proofs.YtlllbkjiadcloaaDoor.hb
end

-- Pu8
section
namespace Go.Proofs.YtlllbkjiadcloaaDoor.hb
open Go Go.RowKit Go.Hb
variable {ok : Ok}
set_option maxRecDepth 10000
attribute [local irreducible] LX LG EL STG SOP SGO SGD SAL SRD SEF SEG SLK SCK ES
abbrev brk : ByteArray := ⟨#[91, 93]⟩
def endT : Tm := .mk 2 brk ByteArray.empty 0 0 []
theorem zie {H : Heap} : RepT H endT (six endT none 0) :=
  .mk 2 brk ByteArray.empty 0 0 [] none 0 (fun _ => []) (by simp [i64]) (by decide) (by simp [maxLen]) (by simp [u64]) (by simp [i64]) (Nat.zero_le _) (Nat.le_refl _) (Nat.zero_le _) (fun _ => ⟨rfl, rfl⟩) (fun i ad hi => by simp at hi) (fun i t h => by simp at h)
theorem zbk : isE ByteArray.empty = true := by unfold isE; rw [show ByteArray.empty.toList = [] from z13]; rfl
theorem zej : Fine endT := by
  unfold Fine
  rw [z3v]
  have hn : nodeS endT = 0 := by
    have hb : blankB endT = true := by simp [blankB, endT, Tm.kind, Tm.name, Tm.num, Tm.bits, Tm.var, Tm.args, zbk]
    have hu : utfS brk = true := by decide +kernel
    have hz : brk.size = 2 := rfl
    unfold nodeS nodeE
    rw [hb]
    simp [endT, Tm.kind, Tm.name, Tm.num, Tm.bits, Tm.var, Tm.args, hu, hz]
  rw [if_pos hn]
  simp [endT, Tm.args, allL]
theorem zif : checkS endT = 0 := z1m.2 ⟨by rw [z2k]; simp [endT, Tm.args, nd.ndL], zej⟩
theorem zig {t u : Tm} : nodeS (.mk 5 dot ByteArray.empty 0 0 [t, u]) = 0 := by
  have hb : blankB (.mk 5 dot ByteArray.empty 0 0 [t, u]) = true := by simp [blankB, Tm.kind, Tm.name, Tm.num, Tm.bits, Tm.var, Tm.args, zbk]
  have hu : utfS dot = true := by decide +kernel
  have hz : dot.size = 1 := rfl
  unfold nodeS nodeE
  rw [hb]
  simp [Tm.kind, Tm.name, Tm.num, Tm.bits, Tm.var, Tm.args, hu, hz]
theorem z7q : ∀ {l : List Tm} {e : Tm}, (∀ t ∈ l, Fine t) → Fine e → Fine (listed l e)
  | [], e, _, h => h
  | t :: l, e, hl, h => by
    have ih := z7q (l := l) (e := e) (fun u hu => hl u (List.mem_cons_of_mem _ hu)) h
    show Fine (.mk 5 dot ByteArray.empty 0 0 [t, listed l e])
    unfold Fine
    rw [z3v, if_pos zig]
    have h1 : allE nodeS t = 0 := hl t (by simp)
    have h2 : allE nodeS (listed l e) = 0 := ih
    simp [Tm.args, allL, h1, h2]
theorem zbl : ∀ (l : List Tm) (e : Tm) (n : Nat), (∀ t ∈ l, checkS t = 0) → totN l n ≤ 4000 → nd (listed l e) + n = nd e + totN l n
  | [], e, n, _, _ => by simp [listed, totN]
  | t :: l, e, n, hl, h => by
    rw [totN] at h ⊢
    by_cases h4 : 4000 < n
    · rw [if_pos h4] at h; omega
    · rw [if_neg h4] at h ⊢
      have ih := zbl l e _ (fun u hu => hl u (List.mem_cons_of_mem _ hu)) h
      have hc := z64 _ t (Nat.lt_succ_self _) 0 (z0p.1 (hl t (by simp))).1
      have e1 : nd (listed (t :: l) e) = 1 + (nd t + nd (listed l e)) := by
        show nd (.mk 5 dot ByteArray.empty 0 0 [t, listed l e]) = _
        rw [z2k]; simp [Tm.args, nd.ndL]
      omega
theorem z7r : ∀ (l : List Tm) {e : Tm}, ¬ isCons e → elL (listed l e) = l ∧ elR (listed l e) = e
  | [], e, h => zci h
  | t :: l, e, h => by
    have ih := z7r l h
    show elL (.mk 5 dot ByteArray.empty 0 0 [t, listed l e]) = _ ∧ elR (.mk 5 dot ByteArray.empty 0 0 [t, listed l e]) = _
    rw [elL, if_pos ⟨rfl, rfl⟩, elR, if_pos ⟨rfl, rfl⟩, ih.1, ih.2]
    exact ⟨rfl, rfl⟩
theorem zih {l : List Tm} (h : listE l endT = 0) : checkS (listT l endT) = 0 ∧ elL (listT l endT) = l ∧ elR (listT l endT) = endT := by
  have e : listT l endT = listed l endT := by unfold listT; rw [if_pos h]
  have hne : ¬ isCons endT := fun q => by have := q.1; simp [endT, Tm.kind] at this
  rw [e]
  refine ⟨?_, (z7r l hne).1, (z7r l hne).2⟩
  unfold listE at h
  split at h
  · rename_i h1
    split at h
    · cases h
    · rename_i h2
      have hl := z3w (z1r.1 h1).1
      have hc : cnt endT 0 = nd endT := by have := z64 _ endT (Nat.lt_succ_self _) 0 (z0p.1 zif).1; omega
      have := zbl l endT (cnt endT 0) hl (by omega)
      exact z1m.2 ⟨by omega, z7q (fun t ht => (z0p.1 (hl t ht)).2) zej⟩
  · rename_i h1; exact absurd h h1
theorem zbm {n : Int} (h : 0 ≤ n) : checkS (varT n) = 0 := z1m.2 ⟨by rw [z2k]; simp [varT, Tm.args, nd.ndL], zjv h⟩
theorem z3l {t : Tm} {B : List (Int × Tm)} (h : PutOk t B) : ∀ n u, lookT B n = some u → checkS u = 0 := fun n u hu => by
  obtain ⟨j, hj, e⟩ := List.getElem_of_mem (z34 hu)
  have := (h.2.1 j hj).2.2
  rw [e] at this; exact this
theorem zek {t : Tm} {B : List (Int × Tm)} (h : PutOk t B) : nd (subO (lookT B) t) ≤ 4000 := by
  have hc := z1m.1 h.1
  have h1 := zia (σ := lookT B) (occ t) (cnt t 0) (z0p.1 h.1).1 (fun n _ u hu => (z1m.1 (z3l h n u hu)).1)
  have h2 := h1.1 h.2.2
  have h3 := zct (σ := lookT B) _ (Nat.lt_succ_self _) hc.2
  have h4 := z64 _ t (Nat.lt_succ_self _) 0 (z0p.1 h.1).1
  omega
theorem zii {t : Tm} {B : List (Int × Tm)} (h : PutOk t B) : checkS (subO (lookT B) t) = 0 :=
  z1m.2 ⟨zek h, zbh _ (Nat.lt_succ_self _) (z1m.1 h.1).2 fun n _ u hu => (z1m.1 (z3l h n u hu)).2⟩
theorem zcv {L : List (Int × Tm)} (hs : L.Pairwise fun p q => p.1 < q.1) : (∀ p ∈ L, lookT L p.1 = some p.2) ∧ ∀ (i : Nat) (hi : i < L.length), lookT (L.take i) L[i].1 = none := by
  constructor
  · intro p hp
    cases hl : lookT L p.1 with
    | none => exact absurd rfl (z8i.1 hl p hp)
    | some u =>
      have hm := z34 hl
      obtain ⟨i, hi, ei⟩ := List.getElem_of_mem hp
      obtain ⟨j, hj, ej⟩ := List.getElem_of_mem hm
      have hpw := List.pairwise_iff_getElem.1 hs
      have : i = j := by
        rcases Nat.lt_or_ge i j with q | q
        · have := hpw i j hi hj q; rw [ei, ej] at this; simp at this
        · rcases Nat.lt_or_ge j i with q2 | q2
          · have := hpw j i hj hi q2; rw [ei, ej] at this; simp at this
          · omega
      subst this
      rw [ei] at ej
      rw [ej]
  · intro i hi
    rw [z8i]
    intro p hp
    obtain ⟨j, hj, ej⟩ := List.getElem_of_mem hp
    rw [List.length_take] at hj
    have hpw := List.pairwise_iff_getElem.1 hs j i (by omega) hi (by omega)
    rw [List.getElem_take] at ej
    rw [ej] at hpw
    omega
theorem zij {t : Tm} {B L : List (Int × Tm)} (h : PutOk t B) (hT : Told t (subO (lookT B) t) L) : PutOk t L ∧ subO (lookT L) t = subO (lookT B) t := by
  have hft := (z1m.1 h.1).2
  obtain ⟨M, eM, hfM, hmem⟩ := hT.ex
  obtain ⟨M', e1, hc, -, hdom⟩ := z7o (σ := lookT B) _ (Nat.lt_succ_self _) hft (M := []) (fun p hp => by cases hp)
  rw [eM] at e1
  cases e1
  obtain ⟨s1, s2⟩ := zcv hT.srt
  have hval : ∀ n ∈ occ t, lookT L n = some ((lookT B n).getD (varT n)) := fun n hn => by
    cases hl : lookT M n with
    | none => exact absurd hl (hdom n hn)
    | some w =>
      have := s1 (n, w) ((hmem (n, w)).2 ⟨hn, hl⟩)
      rw [this, ← hc.look hl]
  have hsub : subO (lookT L) t = subO (lookT B) t := z8n _ (Nat.lt_succ_self _) hft fun n hn => by rw [hval n hn]; rfl
  refine ⟨⟨h.1, fun i hi => ?_, ?_⟩, hsub⟩
  · have hp := (hmem L[i]).1 (List.getElem_mem _)
    have h0 := z5t _ (Nat.lt_succ_self _) hft _ hp.1
    refine ⟨h0, s2 i hi, ?_⟩
    rw [hc.look hp.2]
    cases hb : lookT B L[i].1 with
    | none => exact zbm h0
    | some u => exact z3l h _ _ hb
  · have hcn := (z0p.1 h.1).1
    have h4 := z64 _ t (Nat.lt_succ_self _) 0 hcn
    have h5 := zek h
    rw [← hsub, zct (σ := lookT L) _ (Nat.lt_succ_self _) hft] at h5
    refine (zia (σ := lookT L) (occ t) (cnt t 0) hcn fun n hn u hu => ?_).2 (by omega)
    rw [hval n hn] at hu
    cases hu
    have h0 := z5t _ (Nat.lt_succ_self _) hft _ hn
    cases hb : lookT B n with
    | none => exact (z1m.1 (zbm h0)).1
    | some u => exact (z1m.1 (z3l h _ _ hb)).1
theorem zk8 {t t' : Tm} (h : checkS t = 0) (h' : checkS t' = 0) : chkL [t, t'] = 0 := by simp [chkL, h, h']
theorem BsF.rep7 {H : Heap} {S : Nat → Prop} {n : Nat} {a : Option Addr} {c : Nat} {D : Nat → Bnd} (h : BsF H S n a c D) : RepB7 H ((rowF n D).map pairB) a c ∧ ((rowF n D).map pairB).length = n := by
  have hl : ((rowF n D).map pairB).length = n := by rw [List.length_map, zjz]
  refine ⟨?_, hl⟩
  rcases h with ⟨rfl, rfl, rfl⟩ | ⟨b, rfl, hn, hm, hr, -, hel, -⟩
  · exact ⟨by simp [rowF], by simp [maxLen], fun i hi => by simp [rowF] at hi⟩
  · refine ⟨by rw [hl]; exact hn, hm, fun i hi => ?_⟩
    have hi' : i < n := by omega
    obtain ⟨b1, b2, -⟩ := hel i hi'
    have e : ((rowF n D).map pairB)[i] = pairB (D i) := by simp [rowF]
    rw [e]
    refine ⟨b, 0, (D i).e.a, (D i).e.c, rfl, by rw [Nat.zero_add]; exact hr.load hi', ?_⟩
    exact RepF.rep (T := 26) (S := (D i).e.S) ⟨_, _, rfl, b1, b2⟩
end Go.Proofs.YtlllbkjiadcloaaDoor.hb
end

-- Pu9
section
namespace Go.Proofs.YtlllbkjiadcloaaDoor.hb
open Go Go.RowKit Go.Hb
variable {ok : Ok}
set_option maxRecDepth 10000
attribute [local irreducible] LX LG EL STG SOP SGO SGD SAL SRD SEF SEG SLK SCK ES
set_option maxHeartbeats 16000000 in
theorem zcw {l : List Tm} {a : Option Addr} {c : Nat} {cells : Nat → List Value} {t : Tm} {cs : List Value} {B : List (Int × Tm)} {ab : Option Addr} {cb : Nat} {H : Heap} (rl : RepL H l a c cells) (r0 : RepT H t cs) (rb : RepB7 H B ab cb) (hw : H.wf) :
    EvF Tryd.prog okT 11 [.slice a l.length c, .agg ⟨cs⟩, .slice ab B.length cb] H fun v _ => v = .bool true := by
  have r00 := r0
  obtain ⟨at_, ct, cellst, rfl, -⟩ := r0.six
  refine EvF.enter rfl Tryd.func11 (by decide) rfl ?_
  (repeat refine EvC.seq ?_); refine EvC.reg ?_; simp (config := { maxSteps := 2000000 }) (disch := first | omega | rfl) only [sB, initTm, dBox, Nat.reduceEqDiff, Nat.reduceAdd, Value.cells, one, reduceCtorEq]
  obtain ⟨A0, e0, hx, gp, hn0, w0⟩ := new1 hw (.row (six t at_ ct) 26)
  simp only [e0]
  clear e0
  (repeat refine EvC.seq ?_); refine EvC.reg ?_; simp (config := { maxSteps := 2000000 }) (disch := first | omega | rfl) only [sB, Nat.reduceEqDiff, reduceCtorEq, cl12]
  refine (zcu w0).mono ?_
  rintro v A1 ⟨rfl, k1⟩
  have gp := k1.get w0 gp
  have hx := hx.trans k1
  try simp (config := { maxSteps := 2000000 }) (disch := first | omega | rfl) only []
  (repeat refine EvC.seq ?_); refine EvC.reg ?_; simp (config := { maxSteps := 2000000 }) (disch := first | omega | rfl) only [sB, dAlloc, Nat.reduceEqDiff, Nat.reduceAdd, Value.cells, one, reduceCtorEq, Nat.reduceLeDiff, layC, bd26, zr26, st26]
  obtain ⟨A2, e2, k2, g8, n2, w2⟩ := z0u hx.wf (.row zero6 26) (.row (six endT none 0) 26)
  have e2' := e2
  simp only [six, endT, Tm.kind, Tm.name, Tm.num, Tm.bits, Tm.var, Tm.args, List.length_nil] at e2'
  simp only [e2']
  clear e2 e2'
  have gp := k2.get hx.wf gp
  have n1 := hx.next
  have hx := hx.trans k2
  have q8 := row6 g8
  simp only [endT, Tm.kind, Tm.name, Tm.num, Tm.bits, Tm.var, Tm.args, List.length_nil] at q8
  (repeat refine EvC.seq ?_); refine EvC.reg ?_; simp (config := { maxSteps := 2000000 }) (disch := first | omega | rfl) only [sB, Nat.reduceEqDiff, reduceCtorEq, ld26, cl21, q8]
  refine (zmn (rl.mono hx hw) (zie (H := A2)) hx.wf).mono ?_
  rintro v A3 ⟨ox, rfl, ⟨ax, cx, rfl, bx, fx⟩, k3⟩
  have gp := k3.get hx.wf gp
  have g8 := k3.get hx.wf g8
  have hx := hx.trans k3
  try simp (config := { maxSteps := 2000000 }) (disch := first | omega | rfl) only [sB, dAlloc, Nat.reduceEqDiff, Nat.reduceAdd, one, reduceCtorEq, zr26, st26]
  obtain ⟨A4, e4, k4, g9, n4, w4⟩ := z0u hx.wf (.row zero6 26) (.row (six (listT l endT) ax cx) 26)
  simp only [e4]
  clear e4
  have fx := fx.keep k4 hx.wf
  have gp := k4.get hx.wf gp
  have g8 := k4.get hx.wf g8
  have hx := hx.trans k4
  have q9 := row6 g9
  have q8 := row6 g8
  refine EvC.cut (fun st => ∃ tm H', st = ⟨tm, [], H'⟩ ∧ tm.get 2 = some (.slice ab B.length cb) ∧ tm.get 4 = some (.pointer (some ⟨H.next, 0, none⟩)) ∧ tm.get 7 = some (.bool true) ∧ H'.get H.next = some (.row (six t at_ ct) 26) ∧ HX H H') ?_ ?_
  · by_cases hE : listE l endT = 0
    rotate_left
    · repeat' (first | refine EvC.seq ?_ | refine EvC.scope ?_ | refine EvC.block ?_ | (refine EvC.skip ?_; try simp only [true_and]) | (refine EvC.exit ?_) | (refine EvC.ret ?_; try simp only [z01, z00]) | (refine EvC.reg ?_; simp (config := { maxSteps := 2000000 }) (disch := first | omega | rfl) only [sB, Nat.reduceEqDiff, reduceCtorEq, z0x hE]) | (refine EvC.condT ?_ ?_; simp (config := { maxSteps := 2000000 }) (disch := first | omega | rfl) only [sB, Nat.reduceEqDiff, reduceCtorEq]; refine z03 ?_) | (refine EvC.condF ?_ ?_; simp (config := { maxSteps := 2000000 }) (disch := first | omega | rfl) only [sB, Nat.reduceEqDiff, reduceCtorEq]; refine z03 ?_))
      exact ⟨_, _, rfl, (by simp only [sG, Nat.reduceEqDiff, reduceCtorEq] <;> rfl), (by simp only [sG, Nat.reduceEqDiff, reduceCtorEq] <;> rfl), (by simp only [sG, Nat.reduceEqDiff, reduceCtorEq] <;> rfl), gp, hx⟩
    obtain ⟨hc, hel, her⟩ := zih hE
    have rX : RepT A4 (listT l endT) (six (listT l endT) ax cx) := RepF.rep ⟨ax, cx, rfl, bx, fx⟩
    repeat' (first | refine EvC.seq ?_ | refine EvC.scope ?_ | refine EvC.block ?_ | (refine EvC.skip ?_) | (refine EvC.exit ?_) | (refine EvC.ret ?_; try simp only [z01, z00]) | (refine EvC.reg ?_; simp (config := { maxSteps := 2000000 }) (disch := first | omega | rfl) only [sB, Nat.reduceEqDiff, reduceCtorEq, ld26, cl24, z1p hE, q9]) | (refine EvC.condT ?_ ?_; simp (config := { maxSteps := 2000000 }) (disch := first | omega | rfl) only [sB, Nat.reduceEqDiff, reduceCtorEq]; refine z03 ?_))
    refine (zcj rX hx.wf).mono ?_
    rintro v A5 ⟨k5, m, ay, cy, oy, rfl, fy, ⟨ar, cr, rfl, br, fr⟩, -, -⟩
    rw [if_pos hc, hel] at fy
    rw [if_pos hc, her] at fr br
    rw [if_pos hc, if_pos hc, hel, her, hc]
    have gp5 := k5.get hx.wf gp
    have g85 := k5.get hx.wf g8
    have hx5 := hx.trans k5
    try simp (config := { maxSteps := 2000000 }) (disch := first | omega | rfl) only [sB, dAlloc, Nat.reduceEqDiff, Nat.reduceAdd, one, reduceCtorEq, zr26, st26]
    obtain ⟨A6, e6, k6, g12, n6, w6⟩ := z0u hx5.wf (.row zero6 26) (.row (six endT ar cr) 26)
    simp only [e6]
    clear e6
    have fy := fy.keep k6 hx5.wf
    have fr := fr.keep k6 hx5.wf
    have gp6 := k6.get hx5.wf gp5
    have g86 := k6.get hx5.wf g85
    have hx6 := hx5.trans k6
    obtain ⟨cellsy, hry⟩ := fy.rep
    repeat' (first | refine EvC.seq ?_ | refine EvC.scope ?_ | refine EvC.block ?_ | (refine EvC.skip ?_) | (refine EvC.exit ?_) | (refine EvC.ret ?_; try simp only [z01, z00]) | (refine EvC.reg ?_; simp (config := { maxSteps := 2000000 }) (disch := first | omega | rfl) only [sB, Nat.reduceEqDiff, reduceCtorEq, cl42]))
    refine (zcg hry (rl.mono hx6 hw) hx6.wf).mono ?_
    rintro v A7 ⟨rfl, k7⟩
    rw [zk7]
    have fr := fr.keep k7 hx6.wf
    have gp7 := k7.get hx6.wf gp6
    have g87 := k7.get hx6.wf g86
    have g127 := k7.get hx6.wf g12
    have hx7 := hx6.trans k7
    have q87 := row6 g87
    have q127 := row6 g127
    repeat' (first | refine EvC.seq ?_ | refine EvC.scope ?_ | refine EvC.block ?_ | (refine EvC.skip ?_) | (refine EvC.exit ?_) | (refine EvC.ret ?_; try simp only [z01, z00]) | (refine EvC.reg ?_; simp (config := { maxSteps := 2000000 }) (disch := first | omega | rfl) only [sB, Nat.reduceEqDiff, reduceCtorEq, ld26, cl20, q87, q127]))
    refine (z5k (t := endT) (RepF.rep ⟨ar, cr, rfl, br, fr⟩) (zie (H := A7)) hx7.wf).mono ?_
    rintro v A8 ⟨rfl, k8⟩
    rw [zei]
    repeat' (first | refine EvC.seq ?_ | refine EvC.scope ?_ | refine EvC.block ?_ | (refine EvC.skip ?_; try simp only [true_and]) | (refine EvC.exit ?_) | (refine EvC.ret ?_; try simp only [z01, z00]) | (refine EvC.reg ?_; simp (config := { maxSteps := 2000000 }) (disch := first | omega | rfl) only [sB, Nat.reduceEqDiff, reduceCtorEq, z17 rfl, Bool.not_true, Bool.false_eq_true]) | (refine EvC.condT ?_ ?_; simp (config := { maxSteps := 2000000 }) (disch := first | omega | rfl) only [sB, Nat.reduceEqDiff, reduceCtorEq]; refine z03 ?_) | (refine EvC.condF ?_ ?_; simp (config := { maxSteps := 2000000 }) (disch := first | omega | rfl) only [sB, Nat.reduceEqDiff, reduceCtorEq]; refine z03 ?_))
    exact ⟨_, _, rfl, (by simp only [sG, Nat.reduceEqDiff, reduceCtorEq] <;> rfl), (by simp only [sG, Nat.reduceEqDiff, reduceCtorEq] <;> rfl), (by simp only [sG, Nat.reduceEqDiff, reduceCtorEq] <;> rfl), k8.get hx7.wf gp7, hx7.trans k8⟩
  clear q8 q9 g8 g9 gp fx bx k1 k2 k3 k4 hx
  rintro st ⟨tm, G, rfl, t2, t4, t7, gp, hx⟩
  have q4 := row6 gp
  (repeat refine EvC.seq ?_); refine EvC.reg ?_; simp (config := { maxSteps := 2000000 }) (disch := first | omega | rfl) only [sB, Nat.reduceEqDiff, ld26, cl35, t2, t4, q4]
  refine (zle (r00.mono hx hw) (rb.mono hx hw) hx.wf).mono ?_
  rintro v G1 ⟨k1, h1⟩
  have gp1 := k1.get hx.wf gp
  have hx1 := hx.trans k1
  rcases h1 with ⟨hok, out, rfl, hrep⟩ | ⟨-, e, rfl, he⟩
  rotate_left
  · try simp (config := { maxSteps := 2000000 }) (disch := first | omega | rfl) only [sB, dAlloc, Nat.reduceEqDiff, Nat.reduceAdd, one, zr26, st26]
    obtain ⟨G2, e2, k2, g16, n2', w2'⟩ := z0u hx1.wf (.row zero6 26) (.row zero6 26)
    simp only [e2]
    clear e2
    repeat' (first | refine EvC.seq ?_ | refine EvC.scope ?_ | refine EvC.block ?_ | (refine EvC.skip ?_) | (refine EvC.exit ?_) | (refine EvC.ret ?_; try simp only [z01, z00]) | (refine EvC.reg ?_; simp (config := { maxSteps := 2000000 }) (disch := first | omega | rfl) only [sB, Nat.reduceEqDiff, t7, z31 he]) | (refine EvC.condT ?_ ?_; simp (config := { maxSteps := 2000000 }) (disch := first | omega | rfl) only [sB, Nat.reduceEqDiff]; refine z03 ?_))
    exact z04 rfl (by simp only [sG, Nat.reduceEqDiff] <;> rfl) rfl
  have ru := hrep.rep
  have ru0 := ru
  obtain ⟨au, cu, cellsu, rfl, -⟩ := ru.six
  try simp (config := { maxSteps := 2000000 }) (disch := first | omega | rfl) only [sB, dAlloc, Nat.reduceEqDiff, Nat.reduceAdd, one, zr26, st26]
  obtain ⟨G2, e2, k2, g16, n2', w2'⟩ := z0u hx1.wf (.row zero6 26) (.row (six (subO (lookT B) t) au cu) 26)
  simp only [e2]
  clear e2
  have gp2 := k2.get hx1.wf gp1
  have hx2 := hx1.trans k2
  have ru2 := ru0.mono k2 hx1.wf
  have q42 := row6 gp2
  have q16 := row6 g16
  (repeat refine EvC.seq ?_); refine EvC.reg ?_; simp (config := { maxSteps := 2000000 }) (disch := first | omega | rfl) only [sB, Nat.reduceEqDiff, z17 rfl]
  (repeat refine EvC.seq ?_); refine EvC.condF (by simp (config := { maxSteps := 2000000 }) (disch := first | omega | rfl) only [sB, Nat.reduceEqDiff]) ?_; (try refine EvC.skip ?_); (try simp only [z02, z09])
  (repeat refine EvC.seq ?_); refine EvC.reg ?_; simp (config := { maxSteps := 2000000 }) (disch := first | omega | rfl) only [sB, Nat.reduceEqDiff, ld26, cl43, t4, q42, q16]
  refine (zk6 (r00.mono hx2 hw) ru2 hx2.wf).mono ?_
  rintro v G3 ⟨k3, h3⟩
  have hc0 : chkL [t, subO (lookT B) t] = 0 := zk8 hok.1 (zii hok)
  rcases h3 with ⟨-, n, am, cm, D, rfl, hbs, -, hT⟩ | ⟨-, hno, -⟩ | ⟨hne, -⟩
  rotate_left
  · exfalso
    obtain ⟨M', e1, -⟩ := z7o (σ := lookT B) _ (Nat.lt_succ_self _) (z1m.1 hok.1).2 (M := []) (fun p hp => by cases hp)
    rw [hno] at e1; cases e1
  · exact absurd hc0 hne
  obtain ⟨hok2, hsub⟩ := zij hok hT
  obtain ⟨rb3, hn3⟩ := hbs.rep7
  have gp3 := k3.get hx2.wf gp2
  have g163 := k3.get hx2.wf g16
  have hx3 := hx2.trans k3
  have q43 := row6 gp3
  generalize hL : (rowF n D).map pairB = L at *
  try simp (config := { maxSteps := 2000000 }) (disch := first | omega | rfl) only [sB, Nat.reduceEqDiff]
  (repeat refine EvC.seq ?_); refine EvC.reg ?_; simp (config := { maxSteps := 2000000 }) (disch := first | omega | rfl) only [sB, Nat.reduceEqDiff, reduceCtorEq, z17 rfl, Bool.not_true]
  (repeat refine EvC.seq ?_); refine EvC.condF (by simp (config := { maxSteps := 2000000 }) (disch := first | omega | rfl) only [sB, Nat.reduceEqDiff]) ?_; (try refine EvC.skip ?_); (try simp only [z02, z09])
  (repeat refine EvC.seq ?_); refine EvC.reg ?_; simp (config := { maxSteps := 2000000 }) (disch := first | omega | rfl) only [sB, Nat.reduceEqDiff, ld26, cl35, t4, q43]
  rw [← hn3]
  refine (zle (r00.mono hx3 hw) rb3 hx3.wf).mono ?_
  rintro v G4 ⟨k4, h4⟩
  have g164 := k4.get hx3.wf g163
  have hx4 := hx3.trans k4
  rcases h4 with ⟨-, out, rfl, hrep4⟩ | ⟨hno, -⟩
  rotate_left
  · exact absurd hok2 hno
  have rv := hrep4.rep
  rw [hsub] at rv
  have rv0 := rv
  obtain ⟨av, cv, cellsv, rfl, -⟩ := rv.six
  try simp (config := { maxSteps := 2000000 }) (disch := first | omega | rfl) only [sB, dAlloc, Nat.reduceEqDiff, Nat.reduceAdd, one, zr26, st26]
  obtain ⟨G5, e5, k5, g20, n5, w5⟩ := z0u hx4.wf (.row zero6 26) (.row (six (subO (lookT B) t) av cv) 26)
  simp only [e5]
  clear e5
  have g165 := k5.get hx4.wf g164
  have q165 := row6 g165
  have q20 := row6 g20
  have hx5 := hx4.trans k5
  repeat' (first | refine EvC.seq ?_ | refine EvC.scope ?_ | refine EvC.block ?_ | (refine EvC.skip ?_) | (refine EvC.exit ?_) | (refine EvC.ret ?_; try simp only [z01, z00]) | (refine EvC.reg ?_; simp (config := { maxSteps := 2000000 }) (disch := first | omega | rfl) only [sB, Nat.reduceEqDiff, ld26, cl20, t7, q165, q20, z1p rfl]))
  refine (z5k (((ru2.mono k3 hx2.wf).mono k4 hx3.wf).mono k5 hx4.wf) (rv0.mono k5 hx4.wf) hx5.wf).mono ?_
  rintro v G6 ⟨rfl, k6⟩
  rw [zei]
  repeat' (first | refine EvC.seq ?_ | refine EvC.scope ?_ | refine EvC.block ?_ | (refine EvC.skip ?_) | (refine EvC.exit ?_) | (refine EvC.ret ?_; try simp only [z01, z00]))
  exact z04 rfl (by simp only [sG, Nat.reduceEqDiff] <;> rfl) rfl
end Go.Proofs.YtlllbkjiadcloaaDoor.hb
end

-- Law2
section
namespace Go.Hb
open Go Go.RowKit
section
variable {H : Type} {enc : TypeId × Value → H} {P : Program} {W : World} {sp : Nat → Bool} {fuel : Nat} {t e : TypeId} {cs : List Value} {d : DataW H} {ps : List MemPlace}
theorem zlg {k : IntKind} {n : Int} : ab P W (.int k n) = .int k n := rfl
theorem zbn {s : ByteArray} : ab P W (.string s) = .string s := rfl
theorem z68 {k : IntKind} (ht : P.underlying t = some (.int k)) (h : DataW.trod enc P W 0 sp true fuel t cs = some (d, ps)) : ∃ n, cs = [.int k n] ∧ (Lit.int k n).wf = true := by
  cases fuel with
  | zero => simp [DataW.trod] at h
  | succ m =>
    unfold DataW.trod at h
    rw [ht] at h
    split at h <;> simp_all
theorem z7s (ht : P.underlying t = some .string) (h : DataW.trod enc P W 0 sp true fuel t cs = some (d, ps)) : ∃ s : ByteArray, cs = [.string s] ∧ s.size ≤ maxLen := by
  cases fuel with
  | zero => simp [DataW.trod] at h
  | succ m =>
    unfold DataW.trod at h
    rw [ht] at h
    split at h <;> simp_all
theorem z5u (ht : P.underlying t = some (.slice e)) (h : DataW.trod enc P W 0 sp true fuel t cs = some (d, ps)) :
    cs = [.slice none 0 0] ∨ ∃ a len cap m, fuel = m + 1 ∧ cs = [.slice (some a) len cap] ∧ len ≤ cap ∧ cap ≤ maxLen ∧
      ∀ i, i < len → ∃ es d' ps', W.cells? 0 (a.add (i * P.cellsOf e)) (P.cellsOf e) = some es ∧ DataW.trod enc P W 0 sp true m e es = some (d', ps') := by
  cases fuel with
  | zero => simp [DataW.trod] at h
  | succ m =>
    unfold DataW.trod at h
    rw [ht] at h
    split at h <;> simp_all
    obtain ⟨⟨hl, hc⟩, h⟩ := h
    simp only [Option.bind_eq_some_iff, Option.map_eq_some_iff] at h
    obtain ⟨elems, he, _⟩ := h
    refine ⟨_, _, _, ⟨rfl, rfl, rfl⟩, hl, hc, fun i hi => ?_⟩
    have hlen := mapM_some_length he
    have := mapM_some_get he i i (by simp [hi])
    rw [List.getElem?_eq_getElem (by rw [hlen]; simpa using hi)] at this
    simp only [Option.bind_eq_some_iff] at this
    obtain ⟨es, h1, h2⟩ := this
    exact ⟨es, h1, _, _, h2⟩
theorem z7t {fs : Array Field} (ht : P.underlying t = some (.struct fs)) (h : DataW.trod enc P W 0 sp true fuel t cs = some (d, ps)) :
    ∃ m, fuel = m + 1 ∧ cs.length = P.cellsOf t ∧ ∀ (i : Nat) (f : Field), fs[i]? = some f → ∃ d' ps', DataW.trod enc P W 0 sp true m f.type ((cs.drop f.offset).take (P.cellsOf f.type)) = some (d', ps') := by
  cases fuel with
  | zero => simp [DataW.trod] at h
  | succ m =>
    unfold DataW.trod at h
    rw [ht] at h
    split at h <;> simp_all
    subst_vars
    obtain ⟨hl, xs, hx, _⟩ := h
    intro i f hf
    have hlen := mapM_some_length hx
    have := mapM_some_get hx i f (by simpa using hf)
    have hi := (Array.getElem?_eq_some_iff.1 hf).1
    rw [List.getElem?_eq_getElem (by rw [hlen]; simpa using hi)] at this
    exact ⟨_, _, this⟩
theorem zn6 (a : Addr) (i : Nat) : (a.add i).block = a.block := by unfold Addr.add; split <;> rfl
theorem z37 {a : Addr} {s i : Nat} {es : List Value} (hs : 0 < s) (h : W.cells? 0 (a.add (i * s)) s = some es) (hsp : a.spot = none) : (heapW P W).load ⟨a.block, a.off + i * s, none⟩ s = some (es.map (ab P W)) ∧ es.length = s ∧ a.block < W.heap.size := by
  obtain ⟨_, hl, hc⟩ := World.cells?_some h
  obtain ⟨b, o, sp⟩ := a
  obtain rfl : sp = none := hsp
  have hb := World.cells?_block h hs
  rw [zn6] at hb
  refine ⟨zf1 hs hl fun j v hj => ?_, hl, hb⟩
  have hjl : j < es.length := (List.getElem?_eq_some_iff.1 hj).1
  have := hc j (by omega)
  rw [add0, add0] at this
  rw [this]; exact hj
theorem z5v {a : Addr} {s : Nat} {es : List Value} (hs : 0 < s) (h : W.cells? 0 (a.add (0 * s)) s = some es) : a.spot = none := by
  obtain ⟨_, hl, hc⟩ := World.cells?_some h
  have e0 : ∀ a : Addr, a.add 0 = a := fun a => by unfold Addr.add; simp
  have := hc 0 hs
  rw [Nat.zero_mul, e0, e0, List.getElem?_eq_getElem (by omega)] at this
  unfold World.cell? at this
  split at this
  · split at this
    · cases this
    · rename_i hn; simpa using hn
  · cases this
end
section
variable {H : Type} {enc : TypeId × Value → H} {P : Program} {W : World} {sp : Nat → Bool}
structure TermTypes (P : Program) (tT tS tI tG tU : TypeId) : Prop where
  fields : ∃ fs : Array Field, P.underlying tT = some (.struct fs) ∧ (fs.toList.map fun f => (f.offset, f.type)) = [(0, tI), (1, tG), (2, tG), (3, tU), (4, tI), (5, tS)]
  slice : P.underlying tS = some (.slice tT)
  int : P.underlying tI = some (.int .i64)
  str : P.underlying tG = some .string
  u64 : P.underlying tU = some (.int .u64)
  cT : P.cellsOf tT = 6
  cS : P.cellsOf tS = 1
  cI : P.cellsOf tI = 1
  cG : P.cellsOf tG = 1
  cU : P.cellsOf tU = 1
theorem z8p {n : Int} (h : (Lit.int .i64 n).wf = true) : i64 n := by
  unfold i64
  unfold Lit.wf at h
  simp [IntKind.min, IntKind.max, IntKind.bits, IntKind.signed] at h
  exact h
theorem zik {n : Int} (h : (Lit.int .u64 n).wf = true) : u64 n := by
  unfold u64
  unfold Lit.wf at h
  simp [IntKind.min, IntKind.max, IntKind.bits, IntKind.signed] at h
  exact h
theorem z3m {cs : List Value} {o : Nat} {v : Value} (h : (cs.drop o).take 1 = [v]) : cs[o]? = some v := by
  have : ((cs.drop o).take 1)[0]? = some v := by rw [h]; rfl
  simpa [List.getElem?_take, List.getElem?_drop] using this
theorem zel {cs : List Value} {a b c d e f : Value} (hl : cs.length = 6) (h0 : cs[0]? = some a) (h1 : cs[1]? = some b) (h2 : cs[2]? = some c) (h3 : cs[3]? = some d) (h4 : cs[4]? = some e) (h5 : cs[5]? = some f) : cs = [a, b, c, d, e, f] := by
  match cs, hl with
  | [_, _, _, _, _, _], _ => simp at h0 h1 h2 h3 h4 h5; simp [h0, h1, h2, h3, h4, h5]
theorem z4o {tT tS tI tG tU : TypeId} (T : TermTypes P tT tS tI tG tU) : ∀ (fuel : Nat) (cs : List Value) (d : DataW H) (ps : List MemPlace), DataW.trod enc P W 0 sp true fuel tT cs = some (d, ps) → ∃ t, RepT (heapW P W) t (cs.map (ab P W)) := by
  intro fuel
  induction fuel using Nat.strongRecOn with
  | _ fuel ih =>
  intro cs d ps h
  obtain ⟨fs, hf, hfs⟩ := T.fields
  obtain ⟨m, rfl, hl, hall⟩ := z7t hf h
  rw [T.cT] at hl
  have fld : ∀ i o u, ((fs.toList.map fun f => (f.offset, f.type)))[i]? = some (o, u) → P.cellsOf u = 1 → ∃ d' ps', DataW.trod enc P W 0 sp true m u ((cs.drop o).take 1) = some (d', ps') := fun i o u hi hu => by
    rw [List.getElem?_map, Option.map_eq_some_iff] at hi
    obtain ⟨f, hf1, hf2⟩ := hi
    obtain ⟨d', ps', hd⟩ := hall i f (by simpa using hf1)
    cases hf2
    rw [hu] at hd
    exact ⟨d', ps', hd⟩
  rw [hfs] at fld
  obtain ⟨d0, p0, t0⟩ := fld 0 0 tI rfl T.cI
  obtain ⟨d1, p1, t1⟩ := fld 1 1 tG rfl T.cG
  obtain ⟨d2, p2, t2⟩ := fld 2 2 tG rfl T.cG
  obtain ⟨d3, p3, t3⟩ := fld 3 3 tU rfl T.cU
  obtain ⟨d4, p4, t4⟩ := fld 4 4 tI rfl T.cI
  obtain ⟨d5, p5, t5⟩ := fld 5 5 tS rfl T.cS
  obtain ⟨k, h0, w0⟩ := z68 T.int t0
  obtain ⟨s, h1, w1⟩ := z7s T.str t1
  obtain ⟨u, h2, w2⟩ := z7s T.str t2
  obtain ⟨b, h3, w3⟩ := z68 T.u64 t3
  obtain ⟨v, h4, w4⟩ := z68 T.int t4
  rcases z5u T.slice t5 with h5 | ⟨a, n, c, m', rfl, h5, hnc, hcm, hel⟩
  · rw [zel hl (z3m h0) (z3m h1) (z3m h2) (z3m h3) (z3m h4) (z3m h5)]
    exact ⟨.mk k s u b v [], .mk k s u b v [] none 0 (fun _ => []) (z8p w0) w1 w2 (zik w3) (z8p w4) (Nat.zero_le _) (Nat.le_refl _) (Nat.zero_le _) (fun _ => ⟨rfl, rfl⟩) (fun i ad hi => by simp at hi) (fun i t ht => by simp at ht)⟩
  · rw [zel hl (z3m h0) (z3m h1) (z3m h2) (z3m h3) (z3m h4) (z3m h5)]
    rw [T.cT] at hel
    have hsp : 0 < n → a.spot = none := fun hn => by
      obtain ⟨es, _, _, he, _⟩ := hel 0 hn
      exact z5v (by omega) he
    have key : ∀ i, ∃ t cells, i < n → (heapW P W).load ⟨a.block, a.off + i * 6, none⟩ 6 = some cells ∧ RepT (heapW P W) t cells := fun i => by
      by_cases hi : i < n
      · obtain ⟨es, d', ps', he, ht⟩ := hel i hi
        obtain ⟨t, hr⟩ := ih m' (by omega) es d' ps' ht
        exact ⟨t, _, fun _ => ⟨(z37 (by omega) he (hsp (by omega))).1, hr⟩⟩
      · exact ⟨.mk 0 s u 0 0 [], [], fun h => absurd h hi⟩
    obtain ⟨T', hT'⟩ := Classical.axiomOfChoice key
    obtain ⟨C, hC⟩ := Classical.axiomOfChoice hT'
    have hlen : ((List.range n).map T').length = n := by simp
    refine ⟨.mk k s u b v ((List.range n).map T'), ?_⟩
    by_cases hn : 0 < n
    · have hbl : a.block < W.heap.size := by
        obtain ⟨es, _, _, he, _⟩ := hel 0 hn
        exact (z37 (P := P) (by omega) he (hsp hn)).2.2
      have hab : ab P W (.slice (some a) n c) = .slice (some a) ((List.range n).map T').length c := by
        unfold ab
        rw [hlen]
        simp only
        rw [if_pos ⟨hnc, hcm⟩, if_pos ⟨hsp hn, hbl⟩]
      simp only [List.map_cons, List.map_nil, zlg, zbn, hab]
      refine .mk k s u b v _ (some a) c C (z8p w0) w1 w2 (zik w3) (z8p w4) (by rw [hlen]; omega) (by rw [hlen]; exact hnc) hcm (fun h => by cases h) (fun i ad hi ha => ?_) (fun i t ht => ?_)
      · cases ha
        rw [hlen] at hi
        exact ⟨hsp hn, (hC i hi).1⟩
      · rw [List.getElem?_map, Option.map_eq_some_iff] at ht
        obtain ⟨j, hj, rfl⟩ := ht
        have hi : i < n := by have := (List.getElem?_eq_some_iff.1 hj).1; simpa using this
        rw [List.getElem?_range hi] at hj
        cases hj
        exact (hC i hi).2
    · have hn0 : n = 0 := by omega
      subst hn0
      obtain ⟨a', hab⟩ : ∃ a', ab P W (.slice (some a) 0 c) = .slice (some a') 0 c := by
        unfold ab
        simp only
        rw [if_pos ⟨hnc, hcm⟩]
        split
        · exact ⟨_, rfl⟩
        · exact ⟨_, rfl⟩
      simp only [List.map_cons, List.map_nil, zlg, zbn, hab, List.range_zero]
      exact .mk k s u b v [] (some a') c C (z8p w0) w1 w2 (zik w3) (z8p w4) (Nat.zero_le _) hnc hcm (fun h => by cases h) (fun i ad hi => by simp at hi) (fun i t ht => by simp at ht)
end
end Go.Hb
end

-- Law3
section
namespace Go.Hb
open Go Go.RowKit
section
variable {H : Type} {enc : TypeId × Value → H} {P : Program} {W : World} {sp : Nat → Bool}
theorem zbo {tT tS tI tG tU : TypeId} (T : TermTypes P tT tS tI tG tU) {fuel : Nat} {cs : List Value} {d : DataW H} {ps : List MemPlace} (h : DataW.trod enc P W 0 sp true fuel tS cs = some (d, ps)) :
    ∃ l a c cells, cs.map (ab P W) = [.slice a l.length c] ∧ RepL (heapW P W) l a c cells := by
  rcases z5u T.slice h with rfl | ⟨a, n, c, m, rfl, rfl, hnc, hcm, hel⟩
  · exact ⟨[], none, 0, fun _ => [], rfl, Nat.le_refl _, Nat.zero_le _, fun _ => ⟨rfl, rfl⟩, fun i ad hi => by simp at hi, fun i t h => by simp at h⟩
  · rw [T.cT] at hel
    have hsp : 0 < n → a.spot = none := fun hn => by
      obtain ⟨es, _, _, he, _⟩ := hel 0 hn
      exact z5v (by omega) he
    have key : ∀ i, ∃ t cells, i < n → (heapW P W).load ⟨a.block, a.off + i * 6, none⟩ 6 = some cells ∧ RepT (heapW P W) t cells := fun i => by
      by_cases hi : i < n
      · obtain ⟨es, d', ps', he, ht⟩ := hel i hi
        obtain ⟨t, hr⟩ := z4o T m es d' ps' ht
        exact ⟨t, _, fun _ => ⟨(z37 (by omega) he (hsp (by omega))).1, hr⟩⟩
      · exact ⟨.mk 0 ByteArray.empty ByteArray.empty 0 0 [], [], fun h => absurd h hi⟩
    obtain ⟨T', hT'⟩ := Classical.axiomOfChoice key
    obtain ⟨C, hC⟩ := Classical.axiomOfChoice hT'
    have hlen : ((List.range n).map T').length = n := by simp
    by_cases hn : 0 < n
    · have hbl : a.block < W.heap.size := by
        obtain ⟨es, _, _, he, _⟩ := hel 0 hn
        exact (z37 (P := P) (by omega) he (hsp hn)).2.2
      have hab : ab P W (.slice (some a) n c) = .slice (some a) ((List.range n).map T').length c := by
        unfold ab
        rw [hlen]
        simp only
        rw [if_pos ⟨hnc, hcm⟩, if_pos ⟨hsp hn, hbl⟩]
      refine ⟨(List.range n).map T', some a, c, C, by simp only [List.map_cons, List.map_nil, hab], by rw [hlen]; exact hnc, hcm, (fun h => by cases h), (fun i ad hi ha => ?_), (fun i t ht => ?_)⟩
      · cases ha
        rw [hlen] at hi
        exact ⟨hsp hn, (hC i hi).1⟩
      · rw [List.getElem?_map, Option.map_eq_some_iff] at ht
        obtain ⟨j, hj, rfl⟩ := ht
        have hi : i < n := by have := (List.getElem?_eq_some_iff.1 hj).1; simpa using this
        rw [List.getElem?_range hi] at hj
        cases hj
        exact (hC i hi).2
    · have hn0 : n = 0 := by omega
      subst hn0
      obtain ⟨a', hab⟩ : ∃ a', ab P W (.slice (some a) 0 c) = .slice (some a') 0 c := by
        unfold ab
        simp only
        rw [if_pos ⟨hnc, hcm⟩]
        split
        · exact ⟨_, rfl⟩
        · exact ⟨_, rfl⟩
      exact ⟨[], some a', c, fun _ => [], by simp only [List.map_cons, List.map_nil, hab]; rfl, Nat.zero_le _, hcm, (fun h => by cases h), (fun i ad hi => by simp at hi), (fun i t h => by simp at h)⟩
theorem zil {tT tS tI tG tU : TypeId} (T : TermTypes P tT tS tI tG tU) {v : Value} {fuel : Nat} {d : DataW H} {ps : List MemPlace} (h : DataW.trod enc P W 0 sp true fuel tS v.cells.toList = some (d, ps)) (hv : ∀ cs, v ≠ .agg cs) :
    ∃ l a c cells, abV P W v = .slice a l.length c ∧ RepL (heapW P W) l a c cells := by
  obtain ⟨l, a, c, cells, he, hr⟩ := zbo T h
  refine ⟨l, a, c, cells, ?_, hr⟩
  have hc : v.cells.toList = [v] := by
    unfold Value.cells
    split
    · rename_i cs; exact absurd rfl (hv cs)
    · rfl
  rw [hc] at he
  have : abV P W v = ab P W v := by
    unfold abV
    split
    · rename_i cs; exact absurd rfl (hv _)
    · rfl
  rw [this]
  simpa using he
end
end Go.Hb
end

-- Law5
section
namespace Go.Proofs.YtlllbkjiadcloaaDoor.hb
open Go Go.RowKit Go.Hb
section
variable {H : Type} {enc : TypeId × Value → H} {P : Program} {W : World} {sp : Nat → Bool}
structure BindTypes (P : Program) (tB tBS tT tI : TypeId) : Prop where
  fields : ∃ fs : Array Field, P.underlying tB = some (.struct fs) ∧ (fs.toList.map fun f => (f.offset, f.type)) = [(0, tI), (1, tT)]
  slice : P.underlying tBS = some (.slice tB)
  cB : P.cellsOf tB = 7
theorem zbp {tT tS tI tG tU tB tBS : TypeId} (T : TermTypes P tT tS tI tG tU) (Bt : BindTypes P tB tBS tT tI) {fuel : Nat} {cs : List Value} {d : DataW H} {ps : List MemPlace} (h : DataW.trod enc P W 0 sp true fuel tB cs = some (d, ps)) :
    ∃ (n : Int) (t : Tm) (a : Option Addr) (c : Nat), cs.map (ab P W) = seven n t a c ∧ RepT (heapW P W) t (six t a c) := by
  obtain ⟨fs, hf, hfs⟩ := Bt.fields
  obtain ⟨m, rfl, hl, hall⟩ := z7t hf h
  rw [Bt.cB] at hl
  have fld : ∀ i o u, ((fs.toList.map fun f => (f.offset, f.type)))[i]? = some (o, u) → ∃ d' ps', DataW.trod enc P W 0 sp true m u ((cs.drop o).take (P.cellsOf u)) = some (d', ps') := fun i o u hi => by
    rw [List.getElem?_map, Option.map_eq_some_iff] at hi
    obtain ⟨f, hf1, hf2⟩ := hi
    obtain ⟨d', ps', hd⟩ := hall i f (by simpa using hf1)
    cases hf2
    exact ⟨d', ps', hd⟩
  rw [hfs] at fld
  obtain ⟨d0, p0, t0⟩ := fld 0 0 tI rfl
  obtain ⟨d1, p1, t1⟩ := fld 1 1 tT rfl
  rw [T.cI] at t0
  rw [T.cT] at t1
  obtain ⟨n, h0, -⟩ := z68 T.int t0
  obtain ⟨t, hr⟩ := z4o T _ _ _ _ t1
  obtain ⟨a, c, cells, h6, -⟩ := hr.six
  refine ⟨n, t, a, c, ?_, by rw [← h6]; exact hr⟩
  match cs, hl with
  | x :: r, hl =>
    have hr6 : r.length = 6 := by simpa using hl
    rw [List.drop_zero, List.take_succ_cons, List.take_zero] at h0
    cases h0
    rw [List.drop_succ_cons, List.drop_zero, List.take_of_length_le (by omega)] at h6
    rw [List.map_cons, h6]; rfl
theorem zk9 {tT tS tI tG tU tB tBS : TypeId} (T : TermTypes P tT tS tI tG tU) (Bt : BindTypes P tB tBS tT tI) {v : Value} {fuel : Nat} {d : DataW H} {ps : List MemPlace} (h : DataW.trod enc P W 0 sp true fuel tBS v.cells.toList = some (d, ps)) (hv : ∀ cs, v ≠ .agg cs) :
    ∃ B a c, abV P W v = .slice a B.length c ∧ RepB7 (heapW P W) B a c := by
  have hc : v.cells.toList = [v] := by
    unfold Value.cells
    split
    · rename_i cs; exact absurd rfl (hv cs)
    · rfl
  have habv : abV P W v = ab P W v := by
    unfold abV
    split
    · rename_i cs; exact absurd rfl (hv _)
    · rfl
  rw [hc] at h
  rw [habv]
  rcases z5u Bt.slice h with e | ⟨a, n, c, m, rfl, e, hnc, hcm, hel⟩
  · cases e
    exact ⟨[], none, 0, rfl, Nat.le_refl _, Nat.zero_le _, fun i hi => by simp at hi⟩
  · cases e
    rw [Bt.cB] at hel
    have hsp : 0 < n → a.spot = none := fun hn => by
      obtain ⟨es, _, _, he, _⟩ := hel 0 hn
      exact z5v (by omega) he
    have key : ∀ i, ∃ p : Int × Tm, i < n → ∃ a' c', (heapW P W).load ⟨a.block, a.off + i * 7, none⟩ 7 = some (seven p.1 p.2 a' c') ∧ RepT (heapW P W) p.2 (six p.2 a' c') := fun i => by
      by_cases hi : i < n
      · obtain ⟨es, d', ps', he, ht⟩ := hel i hi
        obtain ⟨k, t, a', c', e1, e2⟩ := zbp T Bt ht
        refine ⟨(k, t), fun _ => ⟨a', c', ?_, e2⟩⟩
        rw [← e1]; exact (z37 (by omega) he (hsp (by omega))).1
      · exact ⟨(0, .mk 0 ByteArray.empty ByteArray.empty 0 0 []), fun h => absurd h hi⟩
    obtain ⟨B, hB⟩ := Classical.axiomOfChoice key
    have hlen : ((List.range n).map B).length = n := by simp
    by_cases hn : 0 < n
    · have hbl : a.block < W.heap.size := by
        obtain ⟨es, _, _, he, _⟩ := hel 0 hn
        exact (z37 (P := P) (by omega) he (hsp hn)).2.2
      have hab : ab P W (.slice (some a) n c) = .slice (some a) ((List.range n).map B).length c := by
        unfold ab
        rw [hlen]
        simp only
        rw [if_pos ⟨hnc, hcm⟩, if_pos ⟨hsp hn, hbl⟩]
      refine ⟨(List.range n).map B, some a, c, hab, by rw [hlen]; exact hnc, hcm, fun i hi => ?_⟩
      rw [hlen] at hi
      obtain ⟨a', c', h1, h2⟩ := hB i hi
      have e : ((List.range n).map B)[i]'(by rw [hlen]; exact hi) = B i := by simp
      rw [e]
      have hs := hsp hn
      obtain ⟨ab', ao, as'⟩ := a
      simp only at hs
      subst hs
      exact ⟨ab', ao, a', c', rfl, h1, h2⟩
    · have hn0 : n = 0 := by omega
      subst hn0
      obtain ⟨a', hab⟩ : ∃ a', ab P W (.slice (some a) 0 c) = .slice (some a') 0 c := by
        unfold ab
        simp only
        rw [if_pos ⟨hnc, hcm⟩]
        split
        · exact ⟨_, rfl⟩
        · exact ⟨_, rfl⟩
      exact ⟨[], some a', c, hab, Nat.zero_le _, hcm, fun i hi => by simp at hi⟩
end
end Go.Proofs.YtlllbkjiadcloaaDoor.hb
end
