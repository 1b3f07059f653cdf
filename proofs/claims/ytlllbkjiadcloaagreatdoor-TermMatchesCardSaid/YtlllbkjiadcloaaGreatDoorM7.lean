import Derived.Test.YtlllbkjiadcloaaGreatDoorM3
import Derived.Test.YtlllbkjiadcloaaGreatDoorM6
import Derived.Test.YtlllbkjiadcloaaGreatDoorM4
import Derived.Test.YtlllbkjiadcloaaGreatDoorM5
/- Lemmas on the program's own code, towards the laws of this folder, part 7. Conditions: as each lemma says. -/
section
namespace Go.Hb
open Go Go.RowKit
theorem HK.side {S S' : Nat → Prop} {A B C : Heap} (h : HK S A B) (k : HK S' B C) (hs : ∀ n, n < A.next → ¬ S' n) : HK S A C :=
 ⟨Nat.le_trans h.next k.next, fun i hi hn => by rw [k.keep i (Nat.lt_of_lt_of_le hi h.next) (hs i hi), h.keep i hi hn], k.wf⟩
def kXor (k : IntKind) (a b : Int) : Int := k.wrap (BitVec.ofInt k.bits a ^^^ BitVec.ofInt k.bits b).toNat
theorem bXor {P : Program} {H : Heap} {t : TypeId} {x y : Operand} {k : IntKind} {a b : Int} : dBin P .xor t x y (.int k a) (.int k b) H = some (.val (.int k (kXor k a b)) H) := by
 simp [dBin, dnil, flat, eqGuard, binOp, Op.intBits, Sem.bind, -BitVec.toNat_xor, -BitVec.toNat_ofInt]; rfl
theorem zmr {z : Int} {m : Nat} (hm : m < 18446744073709551616) : ∃ q : Nat, kAnd .u64 z (m : Int) = (q : Int) ∧ q ≤ m := by
 unfold kAnd
 refine ⟨(BitVec.ofInt 64 z &&& BitVec.ofInt 64 (m : Int)).toNat, ?_, ?_⟩
 ·show IntKind.u64.wrap ((BitVec.ofInt 64 z &&& BitVec.ofInt 64 (m : Int)).toNat : Int) = _
  have := (BitVec.ofInt 64 z &&& BitVec.ofInt 64 (m : Int)).isLt
  rw [wrap_u64 (by omega) (by omega)]
 ·rw [BitVec.ofInt_natCast, BitVec.toNat_and, BitVec.toNat_ofNat, Nat.mod_eq_of_lt (by omega)]
  exact Nat.and_le_right
end Go.Hb
namespace Go.Proofs.hq
open Go Go.RowKit Go.Hb
variable {ok : Ok}
set_option maxRecDepth 10000
attribute [local irreducible] LX LG EL STG SOP SGO SGD SAL SRD SEF SEG SLK SCK ES
set_option maxHeartbeats 16000000 in
theorem zcv {b n c a e : Nat} {D : Nat → Bnd} {H : Heap} (hr : RowB H 37 b n D) (hn : n ≤ most) (h1 : a < e) (h3 : e ≤ n) (low : 0 < a → ∀ k, a ≤ k → k < e → (D (a - 1)).v ≤ (D k).v) (hw : H.wf) :
  EvF Tryz.prog okT 59 [.slice (some ⟨b, 0, none⟩) n c, .int .i64 (a : Nat), .int .i64 (e : Nat), cvB] H fun v H' =>
   ∃ (t : Bool) (D' : Nat → Bnd), v = .bool t ∧ RowB H' 37 b n D' ∧ Pm a e D D' ∧ (t = true → InZ Bnd.v a e D') ∧ HK (· = b) H H' := by
 have hms : most ≤ 1048576 := by simp [most]
 have hg := z2p
 have low' : ∀ D', Pm a e D D' → 0 < a → ∀ k, a ≤ k → k < e → (D' (a - 1)).v ≤ (D' k).v := fun D' h h0 => by
  rw [h.out (k := a - 1) (.inl (by omega))]
  exact h.all (P := fun x => (D (a - 1)).v ≤ x.v) (low h0)
 refine EvF.enter rfl Tryz.func59 (by decide) rfl ?_
 have hwa : IntKind.i64.wrap ((a : Int) + 1) = ((a + 1 : Nat) : Int) := by rw [z06 (by omega) (by omega)]; omega
 have hwl : IntKind.i64.wrap ((e : Int) - (a : Int)) = ((e - a : Nat) : Int) := by rw [z06 (by omega) (by omega)]; omega
 (repeat refine ya ?_); refine yb ?_; simp (config := { maxSteps := 2000000 }) (disch := first | omega | rfl) only [sA, initTm, Nat.reduceAdd]
 (repeat refine ya ?_); refine yb ?_; simp (config := { maxSteps := 2000000 }) (disch := first | omega | rfl) only [sB, Nat.reduceEqDiff, reduceCtorEq, hwa]
 (repeat refine ya ?_); refine yb ?_; simp (config := { maxSteps := 2000000 }) (disch := first | omega | rfl) only [sA]
 (repeat refine ya ?_)
 refine yd (yk (fun k st => ∃ tm H' s i D', st = ⟨tm, [], H'⟩ ∧ k = 5 - s ∧ s ≤ 5 ∧ a + 1 ≤ i ∧ i ≤ e ∧ tm.get 0 = some (.slice (some ⟨b, 0, none⟩) n c) ∧ tm.get 1 = some (.int .i64 (a : Nat)) ∧ tm.get 2 = some (.int .i64 (e : Nat)) ∧ tm.get 3 = some cvB ∧
  tm.get 9 = some (.int .i64 (i : Nat)) ∧ tm.get 10 = some (.int .i64 (s : Nat)) ∧ RowB H' 37 b n D' ∧ Pm a e D D' ∧ InZ Bnd.v a i D' ∧ HK (· = b) H H') ?_ 5 _ ?_)
 rotate_left
 ·exact ⟨_, _, 0, a + 1, D, rfl, rfl, by omega, Nat.le_refl _, by omega, (by simp only [sG, reduceCtorEq] <;> rfl), (by simp only [sG, Nat.reduceEqDiff, reduceCtorEq] <;> rfl), (by simp only [sG, Nat.reduceEqDiff, reduceCtorEq] <;> rfl), (by simp only [sG, Nat.reduceEqDiff, reduceCtorEq] <;> rfl), (by simp only [sG, Nat.reduceEqDiff, reduceCtorEq] <;> rfl), (by simp only [sB, Nat.reduceEqDiff, reduceCtorEq] <;> rfl), hr, Pm.refl D, InZ.few (by omega), HK.refl hw⟩
 rintro k st ⟨tm, H', s, i0, D0, rfl, rfl, hs, hi1, hi2, t0, t1, t2, t3, t9, t10, hr0, hm0, ho0, hk0⟩
 by_cases hs5 : s < 5
 rotate_left
 ·have hd : decide ((s : Int) < 5) = false := decide_eq_false (by omega)
  repeat' (first | refine ya ?_ | refine yg ?_ | refine yd ?_ | (refine ye ?_) | (refine yf ?_; try simp only [sB]) | (refine yc ?_; try simp only [z01, z00]) | (refine yb ?_; simp (config := { maxSteps := 2000000 }) (disch := first | omega | rfl) only [sB, t10, hd]) | (refine yh ?_ ?_; simp (config := { maxSteps := 2000000 }) (disch := first | omega | rfl) only [sB, Nat.reduceEqDiff]; refine z03 ?_) | (refine yi ?_ ?_; simp (config := { maxSteps := 2000000 }) (disch := first | omega | rfl) only [sB, Nat.reduceEqDiff]; refine z03 ?_))
  exact z04 rfl (by simp only [sG, Nat.reduceEqDiff] <;> rfl) ⟨false, D0, rfl, hr0, hm0, (fun h => by cases h), hk0⟩
 have hd5 : decide ((s : Int) < 5) = true := decide_eq_true (by omega)
 (repeat refine ya ?_); refine yb ?_; simp (config := { maxSteps := 2000000 }) (disch := first | omega | rfl) only [sB, t10, hd5]
 (repeat refine ya ?_); refine yh (by simp (config := { maxSteps := 2000000 }) (disch := first | omega | rfl) only [sB, Nat.reduceEqDiff]) ?_; (try refine ye ?_); (try simp only [z02, z09])
 refine ya ?_
 refine yd ?_
 refine EvC.cut (fun st => ∃ tm H' i, st = ⟨tm, [], H'⟩ ∧ a ≤ i ∧ i + 1 ≤ e ∧ InZ Bnd.v a (i + 1) D0 ∧ (i + 1 < e → (D0 (i + 1)).v < (D0 i).v) ∧ tm.get 0 = some (.slice (some ⟨b, 0, none⟩) n c) ∧ tm.get 1 = some (.int .i64 (a : Nat)) ∧ tm.get 2 = some (.int .i64 (e : Nat)) ∧ tm.get 3 = some cvB ∧
  tm.get 9 = some (.int .i64 ((i + 1 : Nat) : Int)) ∧ tm.get 10 = some (.int .i64 (s : Nat)) ∧ RowB H' 37 b n D0 ∧ HK (· = b) H H') ?_ ?_
 ·refine yd (yk (fun k st => ∃ tm H' i, st = ⟨tm, [], H'⟩ ∧ k = e - i ∧ a + 1 ≤ i ∧ i ≤ e ∧ InZ Bnd.v a i D0 ∧ tm.get 0 = some (.slice (some ⟨b, 0, none⟩) n c) ∧ tm.get 1 = some (.int .i64 (a : Nat)) ∧ tm.get 2 = some (.int .i64 (e : Nat)) ∧ tm.get 3 = some cvB ∧
   tm.get 9 = some (.int .i64 (i : Nat)) ∧ tm.get 10 = some (.int .i64 (s : Nat)) ∧ RowB H' 37 b n D0 ∧ HK (· = b) H H') ?_ (e - i0) _ ?_)
  ·rintro k st ⟨tm, H', i, rfl, rfl, hi3, hi4, ho, t0, t1, t2, t3, t9, t10, hr', hk⟩
   obtain ⟨i, rfl⟩ : ∃ j, i = j + 1 := ⟨i - 1, by omega⟩
   by_cases hlt : i + 1 < e
   ·have hwm : IntKind.i64.wrap (((i + 1 : Nat) : Int) - 1) = ((i : Nat) : Int) := by rw [z06 (by omega) (by omega)]; omega
    have hwp : IntKind.i64.wrap (((i + 1 : Nat) : Int) + 1) = ((i + 1 + 1 : Nat) : Int) := by rw [z06 (by omega) (by omega)]; omega
    have k1 : i + 1 < n := by omega
    have k2 : i < n := by omega
    have l1 := hr'.load k1
    have l2 := hr'.load k2
    have hb := hk.bump 18
    repeat' (first | refine ya ?_ | refine yg ?_ | refine yd ?_ | (refine ye ?_) | (refine yf ?_) | (refine yc ?_; try simp only [z01, z00]) | (refine yj (id := 5) [([(0, 0), (1, 0), (2, 0), (3, 0), (4, 0), (5, 0), (6, 0), (7, 0), (8, 0), (9, 0), (10, 0), (11, 0), (12, 0), (13, 0)], some 14), ([(15, 1), (16, 1), (17, 1)], none)] ?_ ?_; kernel_rfl; simp (config := { maxSteps := 2000000 }) (disch := first | omega | rfl) only [sD, sB, Nat.reduceEqDiff, Nat.reduceAdd, reduceCtorEq, ia27, ld37, t0, t2, t3, t9, decl hlt, hwm, l1, l2, z0r, z0g hg, isAlloc, isRead, reduceCtorEq]))
    obtain ⟨cells0, hg0, -, -⟩ := hr'.row
    have hbl := hk.wf _ _ hg0
    refine (z1x hb.wf).mono ?_
    rintro v H2 ⟨rfl, hx2⟩
    have hk2 := hb.hxs hx2
    have r2 := hr'.heap (H' := H2) (by rw [hx2.keep b (Nat.lt_add_right _ hbl)]; rfl)
    by_cases hc : (D0 (i + 1)).v < (D0 i).v
    ·repeat' (first | refine ya ?_ | refine yg ?_ | refine yd ?_ | (refine ye ?_) | (refine yf ?_; try simp only [sB, reduceCtorEq]) | (refine yc ?_; try simp only [z01, z00]) | (refine z0f ?_; simp (config := { maxSteps := 2000000 }) (disch := first | omega | rfl) only [sD, sB, Nat.reduceEqDiff, cz_t hc, Bool.not_true, isAlloc, isRead]) | (refine yh ?_ ?_; simp (config := { maxSteps := 2000000 }) (disch := first | omega | rfl) only [sB, Nat.reduceEqDiff]; refine z03 ?_) | (refine yi ?_ ?_; simp (config := { maxSteps := 2000000 }) (disch := first | omega | rfl) only [sB, Nat.reduceEqDiff]; refine z03 ?_))
     exact ⟨_, _, i, rfl, by omega, by omega, ho, fun _ => hc, (by simp only [sG, reduceCtorEq, t0] <;> rfl), (by simp only [sG, Nat.reduceEqDiff, t1] <;> rfl), (by simp only [sG, Nat.reduceEqDiff, t2] <;> rfl), (by simp only [sG, Nat.reduceEqDiff, t3] <;> rfl), (by simp only [sG, Nat.reduceEqDiff, t9] <;> rfl), (by simp only [sG, Nat.reduceEqDiff, t10] <;> rfl), r2, hk2⟩
    ·repeat' (first | refine ya ?_ | refine yg ?_ | refine yd ?_ | (refine ye ?_; try simp only [z02]) | (refine yf ?_) | (refine yc ?_; try simp only [z01, z00]) | (refine yb ?_; simp (config := { maxSteps := 2000000 }) (disch := first | omega | rfl) only [sB, Nat.reduceEqDiff, t9, hwp]) | (refine z0f ?_; simp (config := { maxSteps := 2000000 }) (disch := first | omega | rfl) only [sD, sB, Nat.reduceEqDiff, cz_f hc, Bool.not_false, isAlloc, isRead]) | (refine yh ?_ ?_; simp (config := { maxSteps := 2000000 }) (disch := first | omega | rfl) only [sB, Nat.reduceEqDiff]; refine z03 ?_))
     exact ⟨e - (i + 1 + 1), by omega, _, _, i + 1 + 1, rfl, rfl, by omega, by omega, fun p q p1 p2 p3 => by
      by_cases e1 : q = i + 1
      ·subst e1
       by_cases e2 : p = i
       ·subst e2; omega
       ·exact Int.le_trans (ho p i p1 (by omega) (by omega)) (by omega)
      ·exact ho p q p1 p2 (by omega), (by simp only [sG, reduceCtorEq, t0] <;> rfl), (by simp only [sG, Nat.reduceEqDiff, t1] <;> rfl), (by simp only [sG, Nat.reduceEqDiff, t2] <;> rfl), (by simp only [sG, Nat.reduceEqDiff, t3] <;> rfl), (by simp only [sG, Nat.reduceEqDiff] <;> rfl), (by simp only [sG, Nat.reduceEqDiff, t10] <;> rfl), r2, hk2⟩
   ·repeat' (first | refine ya ?_ | refine yg ?_ | refine yd ?_ | (refine ye ?_) | (refine yf ?_; try simp only [sB, reduceCtorEq]) | (refine yc ?_; try simp only [z01, z00]) | (refine yj (id := 5) [([(0, 0), (1, 0), (2, 0), (3, 0), (4, 0), (5, 0), (6, 0), (7, 0), (8, 0), (9, 0), (10, 0), (11, 0), (12, 0), (13, 0)], some 14), ([(15, 1), (16, 1), (17, 1)], none)] ?_ ?_; kernel_rfl; simp (config := { maxSteps := 2000000 }) (disch := first | omega | rfl) only [sD, sB, Nat.reduceEqDiff, Nat.reduceAdd, t2, t9, decn hlt, Bool.false_eq_true, isAlloc, isRead]) | (refine yh ?_ ?_; simp (config := { maxSteps := 2000000 }) (disch := first | omega | rfl) only [sB, Nat.reduceEqDiff]; refine z03 ?_) | (refine yi ?_ ?_; simp (config := { maxSteps := 2000000 }) (disch := first | omega | rfl) only [sB, Nat.reduceEqDiff]; refine z03 ?_))
    exact ⟨_, _, i, rfl, by omega, by omega, ho, fun h => absurd h hlt, (by simp only [sG, reduceCtorEq, t0] <;> rfl), (by simp only [sG, Nat.reduceEqDiff, t1] <;> rfl), (by simp only [sG, Nat.reduceEqDiff, t2] <;> rfl), (by simp only [sG, Nat.reduceEqDiff, t3] <;> rfl), (by simp only [sG, Nat.reduceEqDiff, t9] <;> rfl), (by simp only [sG, Nat.reduceEqDiff, t10] <;> rfl), hr'.heap rfl, hk.bump _⟩
  ·exact ⟨_, _, i0, rfl, rfl, hi1, hi2, ho0, (by simp only [sG, reduceCtorEq, t0] <;> rfl), (by simp only [sG, Nat.reduceEqDiff, t1] <;> rfl), (by simp only [sG, Nat.reduceEqDiff, t2] <;> rfl), (by simp only [sG, Nat.reduceEqDiff, t3] <;> rfl), (by simp only [sG, Nat.reduceEqDiff, t9] <;> rfl), (by simp only [sG, Nat.reduceEqDiff, t10] <;> rfl), hr0, hk0⟩
 clear t0 t1 t2 t3 t9 t10
 rintro st ⟨tm, H1, u, rfl, hau, hue, ho1, hstop, t0, t1, t2, t3, t9, t10, hr1, hk1⟩
 by_cases hie : u + 1 = e
 ·have : (((u + 1 : Nat) : Int) == (e : Int)) = true := z1z (by omega)
  repeat' (first | refine ya ?_ | refine yg ?_ | refine yd ?_ | (refine ye ?_) | (refine yf ?_) | (refine yc ?_; try simp only [z01, z00]) | (refine yb ?_; simp (config := { maxSteps := 2000000 }) (disch := first | omega | rfl) only [sB, Nat.reduceEqDiff, t2, t9, this]) | (refine yh ?_ ?_; simp (config := { maxSteps := 2000000 }) (disch := first | omega | rfl) only [sB, Nat.reduceEqDiff]; refine z03 ?_))
  exact z04 rfl (by simp only [sG, Nat.reduceEqDiff] <;> rfl) ⟨true, D0, rfl, hr1, hm0, fun _ => by rw [← hie]; exact ho1, hk1⟩
 have hne : (((u + 1 : Nat) : Int) == (e : Int)) = false := z0x (by omega)
 have hcx := hstop (by omega)
 by_cases h50 : e - a < 50
 ·have d50 : decide (((e - a : Nat) : Int) < 50) = true := decide_eq_true (by omega)
  repeat' (first | refine ya ?_ | refine yg ?_ | refine yd ?_ | (refine ye ?_; try simp only [z02]) | (refine yf ?_) | (refine yc ?_; try simp only [z01, z00]) | (refine yb ?_; simp (config := { maxSteps := 2000000 }) (disch := first | omega | rfl) only [sB, Nat.reduceEqDiff, t1, t2, t9, hne, hwl, d50]) | (refine yh ?_ ?_; simp (config := { maxSteps := 2000000 }) (disch := first | omega | rfl) only [sB, Nat.reduceEqDiff]; refine z03 ?_) | (refine yi ?_ ?_; simp (config := { maxSteps := 2000000 }) (disch := first | omega | rfl) only [sB, Nat.reduceEqDiff]; refine z03 ?_))
  exact z04 rfl (by simp only [sG, Nat.reduceEqDiff] <;> rfl) ⟨false, D0, rfl, hr1, hm0, (fun h => by cases h), hk1⟩
 have d50 : decide (((e - a : Nat) : Int) < 50) = false := decide_eq_false (by omega)
 (repeat refine ya ?_); refine yb ?_; simp (config := { maxSteps := 2000000 }) (disch := first | omega | rfl) only [sB, Nat.reduceEqDiff, t2, t9, hne]
 (repeat refine ya ?_); refine yi (by simp (config := { maxSteps := 2000000 }) (disch := first | omega | rfl) only [sB, Nat.reduceEqDiff]) ?_; (try refine ye ?_); (try simp only [z02, z09])
 (repeat refine ya ?_); refine yb ?_; simp (config := { maxSteps := 2000000 }) (disch := first | omega | rfl) only [sB, Nat.reduceEqDiff, t1, t2, hwl, d50]
 (repeat refine ya ?_); refine yi (by simp (config := { maxSteps := 2000000 }) (disch := first | omega | rfl) only [sB, Nat.reduceEqDiff]) ?_; (try refine ye ?_); (try simp only [z02, z09])
 have hwm : IntKind.i64.wrap (((u + 1 : Nat) : Int) - 1) = ((u : Nat) : Int) := by rw [z06 (by omega) (by omega)]; omega
 have hwp : IntKind.i64.wrap (((u + 1 : Nat) : Int) + 1) = ((u + 2 : Nat) : Int) := by rw [z06 (by omega) (by omega)]; omega
 have e1 : ∀ k, k < u → swF (u + 1) u D0 k = D0 k := fun k hk => zbj (by omega) (by omega)
 have m1 : Pm a e D (swF (u + 1) u D0) := hm0.trans (Pm.swap (by omega) (by omega) (by omega) (by omega))
 refine EvC.cut (fun st => ∃ tm H', st = ⟨tm, [], H'⟩ ∧ tm.get 0 = some (.slice (some ⟨b, 0, none⟩) n c) ∧ tm.get 1 = some (.int .i64 (a : Nat)) ∧ tm.get 2 = some (.int .i64 (e : Nat)) ∧ tm.get 3 = some cvB ∧
  tm.get 9 = some (.int .i64 ((u + 1 : Nat) : Int)) ∧ tm.get 10 = some (.int .i64 (s : Nat)) ∧ RowB H' 37 b n (swF (u + 1) u D0) ∧ HK (· = b) H H') ?_ ?_
 ·have k1 : u + 1 < n := by omega
  have k2 : u < n := by omega
  have l1 := hr1.load k1
  have l2 := hr1.load k2
  obtain ⟨cells, hg2, hl, he⟩ := hr1.row
  have hbl2 := hk1.wf _ _ hg2
  have le1 : (u + 1) * 7 + 7 ≤ cells.length := by have := mul7 k1; omega
  have le2 : u * 7 + 7 ≤ cells.length := by have := mul7 k2; omega
  have hsw := fun H2 h2 => RowB.swap (H := H') (b := b) (T := 37) hl he k1 k2 H2 h2
  generalize swF (u + 1) u D0 = D1 at *
  generalize hE1 : D0 (u + 1) = E1 at *
  generalize hE2 : D0 u = E2 at *
  have le3 : u * 7 + 7 ≤ (Hb.splice cells ((u + 1) * 7) E2.seven).length := by rw [z0c (vs := E2.seven) le1]; exact le2
  repeat' (first | refine ya ?_ | refine yg ?_ | refine yd ?_ | (refine ye ?_) | (refine yf ?_) | (refine yc ?_; try simp only [z01, z00]) | (refine yj (id := 11) [([(0, 0), (1, 0), (5, 0), (6, 0), (7, 0), (8, 0), (9, 0), (10, 0), (11, 0), (12, 0), (13, 0), (14, 0)], some 15), ([(2, 0), (3, 0), (4, 0), (16, 1)], some 17), ([], none)] ?_ ?_; kernel_rfl; simp (config := { maxSteps := 2000000 }) (disch := first | omega | rfl) only [sV, sD, sB, Nat.reduceEqDiff, Nat.reduceAdd, one, reduceCtorEq, ia27, ld37, st37, t0, t9, hwm, l1, l2, hg2, le1, le3, isAlloc, isRead, reduceCtorEq]))
  exact ⟨_, _, rfl, (by simp only [sG, reduceCtorEq, t0] <;> rfl), (by simp only [sG, Nat.reduceEqDiff, t1] <;> rfl), (by simp only [sG, Nat.reduceEqDiff, t2] <;> rfl), (by simp only [sG, Nat.reduceEqDiff, t3] <;> rfl), (by simp only [sG, Nat.reduceEqDiff, t9] <;> rfl), (by simp only [sG, Nat.reduceEqDiff, t10] <;> rfl), hsw _ (by rw [get_put, if_pos rfl]), hk1.two hbl2 _ _ _⟩
 clear t0 t1 t2 t3 t9 t10
 rintro st ⟨tm, H2, rfl, t0, t1, t2, t3, t9, t10, hr2, hk2⟩
 have ho2 : ∀ p q, a ≤ p → p < q → q ≤ u → p ≠ u → q ≠ u → (swF (u + 1) u D0 p).v ≤ (swF (u + 1) u D0 q).v := fun p q p1 p2 p3 p4 p5 => by
  rw [e1 p (by omega), e1 q (by omega)]; exact ho1 p q p1 p2 (by omega)
 generalize swF (u + 1) u D0 = D1 at *
 clear hr1 hr0 hk1 hk0 ho1 hstop hcx e1 ho0 hm0
 refine EvC.cut (fun st => ∃ tm H' D', st = ⟨tm, [], H'⟩ ∧ tm.get 0 = some (.slice (some ⟨b, 0, none⟩) n c) ∧ tm.get 1 = some (.int .i64 (a : Nat)) ∧ tm.get 2 = some (.int .i64 (e : Nat)) ∧ tm.get 3 = some cvB ∧
  tm.get 9 = some (.int .i64 ((u + 1 : Nat) : Int)) ∧ tm.get 10 = some (.int .i64 (s : Nat)) ∧ RowB H' 37 b n D' ∧ Pm a e D D' ∧ InZ Bnd.v a (u + 1) D' ∧ HK (· = b) H H') ?_ ?_
 ·have hwd : IntKind.i64.wrap (((u + 1 : Nat) : Int) - (a : Int)) = ((u + 1 - a : Nat) : Int) := by rw [z06 (by omega) (by omega)]; omega
  by_cases h2 : a < u
  rotate_left
  ·have d2 : decide (((u + 1 - a : Nat) : Int) ≥ 2) = false := decide_eq_false (by omega)
   repeat' (first | refine ya ?_ | refine yg ?_ | refine yd ?_ | (refine ye ?_; try simp only [true_and]) | (refine yf ?_) | (refine yc ?_; try simp only [z01, z00]) | (refine yb ?_; simp (config := { maxSteps := 2000000 }) (disch := first | omega | rfl) only [sB, Nat.reduceEqDiff, t1, t9, hwd, d2]) | (refine yh ?_ ?_; simp (config := { maxSteps := 2000000 }) (disch := first | omega | rfl) only [sB, Nat.reduceEqDiff]; refine z03 ?_) | (refine yi ?_ ?_; simp (config := { maxSteps := 2000000 }) (disch := first | omega | rfl) only [sB, Nat.reduceEqDiff]; refine z03 ?_))
   exact ⟨_, _, D1, rfl, (by simp only [sG, reduceCtorEq, t0] <;> rfl), (by simp only [sG, Nat.reduceEqDiff, t1] <;> rfl), (by simp only [sG, Nat.reduceEqDiff, t2] <;> rfl), (by simp only [sG, Nat.reduceEqDiff, t3] <;> rfl), (by simp only [sG, Nat.reduceEqDiff, t9] <;> rfl), (by simp only [sG, Nat.reduceEqDiff, t10] <;> rfl), hr2, m1, InZ.few (by omega), hk2⟩
  have d2 : decide (((u + 1 - a : Nat) : Int) ≥ 2) = true := decide_eq_true (by omega)
  (repeat refine ya ?_); refine yb ?_; simp (config := { maxSteps := 2000000 }) (disch := first | omega | rfl) only [sB, Nat.reduceEqDiff, t1, t9, hwd, d2]
  (repeat refine ya ?_); refine yh (by simp (config := { maxSteps := 2000000 }) (disch := first | omega | rfl) only [sB, Nat.reduceEqDiff]) ?_; (try refine ye ?_); (try simp only [z02, z09])
  (repeat refine ya ?_); refine yb ?_; simp (config := { maxSteps := 2000000 }) (disch := first | omega | rfl) only [sB, Nat.reduceEqDiff, t9, hwm]
  refine yd (yk (fun k st => ∃ tm H' D', st = ⟨tm, [], H'⟩ ∧ a ≤ k ∧ k ≤ u ∧ tm.get 0 = some (.slice (some ⟨b, 0, none⟩) n c) ∧ tm.get 1 = some (.int .i64 (a : Nat)) ∧ tm.get 2 = some (.int .i64 (e : Nat)) ∧ tm.get 3 = some cvB ∧
   tm.get 9 = some (.int .i64 ((u + 1 : Nat) : Int)) ∧ tm.get 10 = some (.int .i64 (s : Nat)) ∧ tm.get 11 = some (.int .i64 (k : Nat)) ∧ RowB H' 37 b n D' ∧ Pm a e D D' ∧ (∀ p q, a ≤ p → p < q → q ≤ u → p ≠ k → q ≠ k → (D' p).v ≤ (D' q).v) ∧ (∀ q, k < q → q ≤ u → (D' k).v ≤ (D' q).v) ∧ HK (· = b) H H') ?_ u _ ?_)
  ·rintro k st ⟨tm, H', D', rfl, hj, hju, t0, t1, t2, t3, t9, t10, t11, hr', hm, ho1, ho2, hk⟩
   by_cases hk0 : k = 0
   ·subst hk0
    have dd : decide (((0 : Nat) : Int) ≥ 1) = false := rfl
    repeat' (first | refine ya ?_ | refine yg ?_ | refine yd ?_ | (refine ye ?_) | (refine yf ?_; try simp only [sB, reduceCtorEq]) | (refine yc ?_; try simp only [z01, z00]) | (refine yb ?_; simp (config := { maxSteps := 2000000 }) (disch := first | omega | rfl) only [sB, t11, dd]) | (refine yh ?_ ?_; simp (config := { maxSteps := 2000000 }) (disch := first | omega | rfl) only [sB, Nat.reduceEqDiff]; refine z03 ?_) | (refine yi ?_ ?_; simp (config := { maxSteps := 2000000 }) (disch := first | omega | rfl) only [sB, Nat.reduceEqDiff]; refine z03 ?_))
    exact ⟨_, _, D', rfl, (by simp only [sG, reduceCtorEq, t0] <;> rfl), (by simp only [sG, Nat.reduceEqDiff, t1] <;> rfl), (by simp only [sG, Nat.reduceEqDiff, t2] <;> rfl), (by simp only [sG, Nat.reduceEqDiff, t3] <;> rfl), (by simp only [sG, Nat.reduceEqDiff, t9] <;> rfl), (by simp only [sG, Nat.reduceEqDiff, t10] <;> rfl), hr', hm, fun p q p1 p2 p3 => by
     by_cases e1 : p = 0
     ·subst e1; exact ho2 q p2 (by omega)
     ·exact ho1 p q p1 p2 (by omega) e1 (by omega), hk⟩
   ·obtain ⟨j, rfl⟩ : ∃ j, k = j + 1 := ⟨k - 1, by omega⟩
    have dd : decide (((j + 1 : Nat) : Int) ≥ 1) = true := decide_eq_true (by omega)
    have hw2 : IntKind.i64.wrap (((j + 1 : Nat) : Int) - 1) = ((j : Nat) : Int) := by rw [z06 (by omega) (by omega)]; omega
    have k1 : j + 1 < n := by omega
    have k2 : j < n := by omega
    have l1 := hr'.load k1
    have l2 := hr'.load k2
    have hb := hk.bump 13
    repeat' (first | refine ya ?_ | refine yg ?_ | refine yd ?_ | (refine ye ?_; try simp only [z02]) | (refine yf ?_) | (refine yc ?_; try simp only [z01, z00]) | (refine yb ?_; simp (config := { maxSteps := 2000000 }) (disch := first | omega | rfl) only [sB, t11, dd]) | (refine yj (id := 16) [([(0, 0), (1, 0), (2, 0), (3, 0), (4, 0), (5, 0), (6, 0), (7, 0), (8, 0), (9, 0)], some 10), ([(11, 1), (12, 1)], none)] ?_ ?_; kernel_rfl; simp (config := { maxSteps := 2000000 }) (disch := first | omega | rfl) only [sD, sB, Nat.reduceEqDiff, Nat.reduceAdd, reduceCtorEq, ia27, ld37, t0, t3, t11, hw2, l1, l2, z0r, z0g hg, isAlloc, isRead, reduceCtorEq]) | (refine yh ?_ ?_; simp (config := { maxSteps := 2000000 }) (disch := first | omega | rfl) only [sB, Nat.reduceEqDiff]; refine z03 ?_))
    obtain ⟨cells0, hg0, -, -⟩ := hr'.row
    have hbl := hk.wf _ _ hg0
    refine (z1x hb.wf).mono ?_
    rintro v H2 ⟨rfl, hx2⟩
    have hk2 := hb.hxs hx2
    have r2 := hr'.heap (H' := H2) (by rw [hx2.keep b (Nat.lt_add_right _ hbl)]; rfl)
    by_cases hc : (D' (j + 1)).v < (D' j).v
    ·have hja : a ≤ j := by
      rcases Nat.lt_or_ge j a with q | q
      ·have q' : a = j + 1 := by omega
       have := low' D' hm (by omega) (j + 1) (by omega) (by omega)
       rw [show a - 1 = j by omega] at this
       omega
      ·exact q
     have l1 := r2.load k1
     have l2 := r2.load k2
     obtain ⟨cells, hg2, hl, he⟩ := r2.row
     have hbl2 := hk2.wf _ _ hg2
     have le1 : (j + 1) * 7 + 7 ≤ cells.length := by have := mul7 k1; omega
     have le2 : j * 7 + 7 ≤ cells.length := by have := mul7 k2; omega
     have hsw := fun H2 h2 => RowB.swap (H := H') (b := b) (T := 37) hl he k1 k2 H2 h2
     have ms := Pm.swap (a := a) (b := e) (i := j) (j := j + 1) (D := D') (by omega) (by omega) (by omega) (by omega)
     rw [zej] at hsw
     have o1 : ∀ p q, a ≤ p → p < q → q ≤ u → p ≠ j → q ≠ j → (swF j (j + 1) D' p).v ≤ (swF j (j + 1) D' q).v := fun p q p1 p2 p3 p4 p5 => by
      unfold swF
      rw [if_neg p4, if_neg p5]
      by_cases e1 : p = j + 1
      ·rw [if_pos e1, if_neg (by omega)]; exact ho1 j q (by omega) (by omega) p3 (by omega) (by omega)
      ·rw [if_neg e1]
       by_cases e2 : q = j + 1
       ·rw [if_pos e2]; exact ho1 p j p1 (by omega) (by omega) e1 (by omega)
       ·rw [if_neg e2]; exact ho1 p q p1 p2 p3 e1 e2
     have o2 : ∀ q, j < q → q ≤ u → (swF j (j + 1) D' j).v ≤ (swF j (j + 1) D' q).v := fun q q1 q2 => by
      unfold swF
      rw [if_pos rfl, if_neg (by omega)]
      by_cases e2 : q = j + 1
      ·rw [if_pos e2]; omega
      ·rw [if_neg e2]; exact ho2 q (by omega) q2
     clear ho1 ho2
     generalize swF j (j + 1) D' = D2 at *
     generalize hE1 : D' (j + 1) = E1 at *
     generalize hE2 : D' j = E2 at *
     have le3 : j * 7 + 7 ≤ (Hb.splice cells ((j + 1) * 7) E2.seven).length := by rw [z0c (vs := E2.seven) le1]; exact le2
     repeat' (first | refine ya ?_ | refine yg ?_ | refine yd ?_ | (refine ye ?_; try simp only [z02]) | (refine yf ?_) | (refine yc ?_; try simp only [z01, z00]) | (refine yb ?_; simp (config := { maxSteps := 2000000 }) (disch := first | omega | rfl) only [sB, Nat.reduceEqDiff, t11, hw2]) | (refine yj (id := 17) [([(0, 0), (1, 0), (5, 0), (6, 0), (7, 0), (8, 0), (9, 0), (10, 0), (11, 0), (12, 0), (13, 0), (14, 0)], some 15), ([(2, 0), (3, 0), (4, 0), (16, 1)], some 17), ([], none)] ?_ ?_; kernel_rfl; simp (config := { maxSteps := 2000000 }) (disch := first | omega | rfl) only [sV, sD, sB, Nat.reduceEqDiff, Nat.reduceAdd, one, reduceCtorEq, ia27, ld37, st37, t0, t11, hw2, l1, l2, hg2, le1, le3, isAlloc, isRead, reduceCtorEq]) | (refine z0f ?_; simp (config := { maxSteps := 2000000 }) (disch := first | omega | rfl) only [sD, sB, Nat.reduceEqDiff, cz_t hc, Bool.not_true, isAlloc, isRead]) | (refine yh ?_ ?_; simp (config := { maxSteps := 2000000 }) (disch := first | omega | rfl) only [sB, Nat.reduceEqDiff]; refine z03 ?_) | (refine yi ?_ ?_; simp (config := { maxSteps := 2000000 }) (disch := first | omega | rfl) only [sB, Nat.reduceEqDiff]; refine z03 ?_))
     exact ⟨j, by omega, _, _, D2, rfl, hja, by omega, (by simp only [sG, reduceCtorEq, t0] <;> rfl), (by simp only [sG, Nat.reduceEqDiff, t1] <;> rfl), (by simp only [sG, Nat.reduceEqDiff, t2] <;> rfl), (by simp only [sG, Nat.reduceEqDiff, t3] <;> rfl), (by simp only [sG, Nat.reduceEqDiff, t9] <;> rfl), (by simp only [sG, Nat.reduceEqDiff, t10] <;> rfl), (by simp only [sG, Nat.reduceEqDiff] <;> rfl), hsw _ (by rw [get_put, if_pos rfl]), hm.trans ms, o1, o2, hk2.two hbl2 _ _ _⟩
    ·repeat' (first | refine ya ?_ | refine yg ?_ | refine yd ?_ | (refine ye ?_) | (refine yf ?_; try simp only [sB, Nat.reduceEqDiff, reduceCtorEq]) | (refine yc ?_; try simp only [z01, z00]) | (refine z0f ?_; simp (config := { maxSteps := 2000000 }) (disch := first | omega | rfl) only [sD, sB, Nat.reduceEqDiff, cz_f hc, Bool.not_false, isAlloc, isRead]) | (refine yh ?_ ?_; simp (config := { maxSteps := 2000000 }) (disch := first | omega | rfl) only [sB, Nat.reduceEqDiff]; refine z03 ?_))
     exact ⟨_, _, D', rfl, (by simp only [sG, reduceCtorEq, t0] <;> rfl), (by simp only [sG, Nat.reduceEqDiff, t1] <;> rfl), (by simp only [sG, Nat.reduceEqDiff, t2] <;> rfl), (by simp only [sG, Nat.reduceEqDiff, t3] <;> rfl), (by simp only [sG, Nat.reduceEqDiff, t9] <;> rfl), (by simp only [sG, Nat.reduceEqDiff, t10] <;> rfl), r2, hm, fun p q p1 p2 p3 => by
      by_cases e1 : p = j + 1
      ·subst e1; exact ho2 q p2 (by omega)
      ·by_cases e2 : q = j + 1
       ·subst e2
        by_cases e3 : p = j
        ·subst e3; omega
        ·exact Int.le_trans (ho1 p j p1 (by omega) (by omega) e1 (by omega)) (by omega)
       ·exact ho1 p q p1 p2 (by omega) e1 e2, hk2⟩
  ·exact ⟨_, _, D1, rfl, by omega, Nat.le_refl _, (by simp only [sG, reduceCtorEq, t0] <;> rfl), (by simp only [sG, Nat.reduceEqDiff, t1] <;> rfl), (by simp only [sG, Nat.reduceEqDiff, t2] <;> rfl), (by simp only [sG, Nat.reduceEqDiff, t3] <;> rfl), (by simp only [sG, Nat.reduceEqDiff, t9] <;> rfl), (by simp only [sG, Nat.reduceEqDiff, t10] <;> rfl), (by simp only [sG, Nat.reduceEqDiff] <;> rfl), hr2, m1, ho2, fun q q1 q2 => by omega, hk2⟩
 clear t0 t1 t2 t3 t9 t10 hr2 hk2 m1 ho2
 rintro st ⟨tm, H3, D3, rfl, t0, t1, t2, t3, t9, t10, hr3, m3, ho3, hk3⟩
 refine EvC.meet (fun st => ∃ tm H' D', st = ⟨tm, [], H'⟩ ∧ tm.get 0 = some (.slice (some ⟨b, 0, none⟩) n c) ∧ tm.get 1 = some (.int .i64 (a : Nat)) ∧ tm.get 2 = some (.int .i64 (e : Nat)) ∧ tm.get 3 = some cvB ∧
  tm.get 9 = some (.int .i64 ((u + 1 : Nat) : Int)) ∧ tm.get 10 = some (.int .i64 (s : Nat)) ∧ RowB H' 37 b n D' ∧ Pm a e D D' ∧ InZ Bnd.v a (u + 1) D' ∧ HK (· = b) H H') ?_ ?_
 ·have hwd : IntKind.i64.wrap ((e : Int) - ((u + 1 : Nat) : Int)) = ((e - (u + 1) : Nat) : Int) := by rw [z06 (by omega) (by omega)]; omega
  by_cases h2 : u + 2 < e
  rotate_left
  ·have d2 : decide (((e - (u + 1) : Nat) : Int) ≥ 2) = false := decide_eq_false (by omega)
   repeat' (first | refine ya ?_ | refine yg ?_ | refine yd ?_ | (refine ye ?_; try simp only [true_and]) | (refine yf ?_) | (refine yc ?_; try simp only [z01, z00]) | (refine yb ?_; simp (config := { maxSteps := 2000000 }) (disch := first | omega | rfl) only [sB, Nat.reduceEqDiff, t2, t9, hwd, d2]) | (refine yh ?_ ?_; simp (config := { maxSteps := 2000000 }) (disch := first | omega | rfl) only [sB, Nat.reduceEqDiff]; refine z03 ?_) | (refine yi ?_ ?_; simp (config := { maxSteps := 2000000 }) (disch := first | omega | rfl) only [sB, Nat.reduceEqDiff]; refine z03 ?_))
   exact ⟨_, _, D3, rfl, (by simp only [sG, reduceCtorEq, t0] <;> rfl), (by simp only [sG, Nat.reduceEqDiff, t1] <;> rfl), (by simp only [sG, Nat.reduceEqDiff, t2] <;> rfl), (by simp only [sG, Nat.reduceEqDiff, t3] <;> rfl), (by simp only [sG, Nat.reduceEqDiff, t9] <;> rfl), (by simp only [sG, Nat.reduceEqDiff, t10] <;> rfl), hr3, m3, ho3, hk3⟩
  have d2 : decide (((e - (u + 1) : Nat) : Int) ≥ 2) = true := decide_eq_true (by omega)
  (repeat refine ya ?_); refine yb ?_; simp (config := { maxSteps := 2000000 }) (disch := first | omega | rfl) only [sB, Nat.reduceEqDiff, t2, t9, hwd, d2]
  (repeat refine ya ?_); refine yh (by simp (config := { maxSteps := 2000000 }) (disch := first | omega | rfl) only [sB, Nat.reduceEqDiff]) ?_; (try refine ye ?_); (try simp only [z02, z09])
  (repeat refine ya ?_); refine yb ?_; simp (config := { maxSteps := 2000000 }) (disch := first | omega | rfl) only [sB, Nat.reduceEqDiff, t9, hwp]
  refine yd (yk (fun k st => ∃ tm H' j D', st = ⟨tm, [], H'⟩ ∧ k = e - j ∧ u + 1 < j ∧ j ≤ e ∧ tm.get 0 = some (.slice (some ⟨b, 0, none⟩) n c) ∧ tm.get 1 = some (.int .i64 (a : Nat)) ∧ tm.get 2 = some (.int .i64 (e : Nat)) ∧ tm.get 3 = some cvB ∧
   tm.get 9 = some (.int .i64 ((u + 1 : Nat) : Int)) ∧ tm.get 10 = some (.int .i64 (s : Nat)) ∧ tm.get 12 = some (.int .i64 (j : Nat)) ∧ RowB H' 37 b n D' ∧ Pm a e D D' ∧ InZ Bnd.v a (u + 1) D' ∧ HK (· = b) H H') ?_ (e - (u + 2)) _ ?_)
  ·rintro k st ⟨tm, H', j, D', rfl, rfl, hj, hje, t0, t1, t2, t3, t9, t10, t12, hr', hm, ho1, hk⟩
   by_cases hlt : j < e
   rotate_left
   ·repeat' (first | refine ya ?_ | refine yg ?_ | refine yd ?_ | (refine ye ?_) | (refine yf ?_; try simp only [sB, reduceCtorEq]) | (refine yc ?_; try simp only [z01, z00]) | (refine yb ?_; simp (config := { maxSteps := 2000000 }) (disch := first | omega | rfl) only [sB, Nat.reduceEqDiff, t2, t12, decn hlt]) | (refine yh ?_ ?_; simp (config := { maxSteps := 2000000 }) (disch := first | omega | rfl) only [sB, Nat.reduceEqDiff]; refine z03 ?_) | (refine yi ?_ ?_; simp (config := { maxSteps := 2000000 }) (disch := first | omega | rfl) only [sB, Nat.reduceEqDiff]; refine z03 ?_))
    exact ⟨_, _, D', rfl, (by simp only [sG, reduceCtorEq, t0] <;> rfl), (by simp only [sG, Nat.reduceEqDiff, t1] <;> rfl), (by simp only [sG, Nat.reduceEqDiff, t2] <;> rfl), (by simp only [sG, Nat.reduceEqDiff, t3] <;> rfl), (by simp only [sG, Nat.reduceEqDiff, t9] <;> rfl), (by simp only [sG, Nat.reduceEqDiff, t10] <;> rfl), hr', hm, ho1, hk⟩
   obtain ⟨j, rfl⟩ : ∃ w, j = w + 1 := ⟨j - 1, by omega⟩
   have hw2 : IntKind.i64.wrap (((j + 1 : Nat) : Int) - 1) = ((j : Nat) : Int) := by rw [z06 (by omega) (by omega)]; omega
   have hw3 : IntKind.i64.wrap (((j + 1 : Nat) : Int) + 1) = ((j + 1 + 1 : Nat) : Int) := by rw [z06 (by omega) (by omega)]; omega
   have k1 : j + 1 < n := by omega
   have k2 : j < n := by omega
   have l1 := hr'.load k1
   have l2 := hr'.load k2
   have hb := hk.bump 13
   repeat' (first | refine ya ?_ | refine yg ?_ | refine yd ?_ | (refine ye ?_; try simp only [z02]) | (refine yf ?_) | (refine yc ?_; try simp only [z01, z00]) | (refine yb ?_; simp (config := { maxSteps := 2000000 }) (disch := first | omega | rfl) only [sB, Nat.reduceEqDiff, t2, t12, decl hlt]) | (refine yj (id := 22) [([(0, 0), (1, 0), (2, 0), (3, 0), (4, 0), (5, 0), (6, 0), (7, 0), (8, 0), (9, 0)], some 10), ([(11, 1), (12, 1)], none)] ?_ ?_; kernel_rfl; simp (config := { maxSteps := 2000000 }) (disch := first | omega | rfl) only [sD, sB, Nat.reduceEqDiff, Nat.reduceAdd, reduceCtorEq, ia27, ld37, t0, t3, t12, hw2, l1, l2, z0r, z0g hg, isAlloc, isRead, reduceCtorEq]) | (refine yh ?_ ?_; simp (config := { maxSteps := 2000000 }) (disch := first | omega | rfl) only [sB, Nat.reduceEqDiff]; refine z03 ?_))
   obtain ⟨cells0, hg0, -, -⟩ := hr'.row
   have hbl := hk.wf _ _ hg0
   refine (z1x hb.wf).mono ?_
   rintro v H2 ⟨rfl, hx2⟩
   have hk2 := hb.hxs hx2
   have r2 := hr'.heap (H' := H2) (by rw [hx2.keep b (Nat.lt_add_right _ hbl)]; rfl)
   by_cases hc : (D' (j + 1)).v < (D' j).v
   ·have l1 := r2.load k1
    have l2 := r2.load k2
    obtain ⟨cells, hg2, hl, he⟩ := r2.row
    have hbl2 := hk2.wf _ _ hg2
    have le1 : (j + 1) * 7 + 7 ≤ cells.length := by have := mul7 k1; omega
    have le2 : j * 7 + 7 ≤ cells.length := by have := mul7 k2; omega
    have hsw := fun H2 h2 => RowB.swap (H := H') (b := b) (T := 37) hl he k1 k2 H2 h2
    have ms := Pm.swap (a := a) (b := e) (i := j + 1) (j := j) (D := D') (by omega) (by omega) (by omega) (by omega)
    have o1 : InZ Bnd.v a (u + 1) (swF (j + 1) j D') := fun p q p1 p2 p3 => by
     rw [zbj (by omega) (by omega), zbj (by omega) (by omega)]; exact ho1 p q p1 p2 p3
    generalize swF (j + 1) j D' = D2 at *
    generalize hE1 : D' (j + 1) = E1 at *
    generalize hE2 : D' j = E2 at *
    have le3 : j * 7 + 7 ≤ (Hb.splice cells ((j + 1) * 7) E2.seven).length := by rw [z0c (vs := E2.seven) le1]; exact le2
    repeat' (first | refine ya ?_ | refine yg ?_ | refine yd ?_ | (refine ye ?_; try simp only [z02]) | (refine yf ?_) | (refine yc ?_; try simp only [z01, z00]) | (refine yb ?_; simp (config := { maxSteps := 2000000 }) (disch := first | omega | rfl) only [sB, Nat.reduceEqDiff, t12, hw3]) | (refine yj (id := 23) [([(0, 0), (1, 0), (5, 0), (6, 0), (7, 0), (8, 0), (9, 0), (10, 0), (11, 0), (12, 0), (13, 0), (14, 0)], some 15), ([(2, 0), (3, 0), (4, 0), (16, 1)], some 17), ([], none)] ?_ ?_; kernel_rfl; simp (config := { maxSteps := 2000000 }) (disch := first | omega | rfl) only [sV, sD, sB, Nat.reduceEqDiff, Nat.reduceAdd, one, reduceCtorEq, ia27, ld37, st37, t0, t12, hw2, l1, l2, hg2, le1, le3, isAlloc, isRead, reduceCtorEq]) | (refine z0f ?_; simp (config := { maxSteps := 2000000 }) (disch := first | omega | rfl) only [sD, sB, Nat.reduceEqDiff, cz_t hc, Bool.not_true, isAlloc, isRead]) | (refine yh ?_ ?_; simp (config := { maxSteps := 2000000 }) (disch := first | omega | rfl) only [sB, Nat.reduceEqDiff]; refine z03 ?_) | (refine yi ?_ ?_; simp (config := { maxSteps := 2000000 }) (disch := first | omega | rfl) only [sB, Nat.reduceEqDiff]; refine z03 ?_))
    exact ⟨e - (j + 1 + 1), by omega, _, _, j + 1 + 1, D2, rfl, rfl, by omega, by omega, (by simp only [sG, reduceCtorEq, t0] <;> rfl), (by simp only [sG, Nat.reduceEqDiff, t1] <;> rfl), (by simp only [sG, Nat.reduceEqDiff, t2] <;> rfl), (by simp only [sG, Nat.reduceEqDiff, t3] <;> rfl), (by simp only [sG, Nat.reduceEqDiff, t9] <;> rfl), (by simp only [sG, Nat.reduceEqDiff, t10] <;> rfl), (by simp only [sG, Nat.reduceEqDiff] <;> rfl), hsw _ (by rw [get_put, if_pos rfl]), hm.trans ms, o1, hk2.two hbl2 _ _ _⟩
   ·repeat' (first | refine ya ?_ | refine yg ?_ | refine yd ?_ | (refine ye ?_) | (refine yf ?_; try simp only [sB, Nat.reduceEqDiff, reduceCtorEq]) | (refine yc ?_; try simp only [z01, z00]) | (refine z0f ?_; simp (config := { maxSteps := 2000000 }) (disch := first | omega | rfl) only [sD, sB, Nat.reduceEqDiff, cz_f hc, Bool.not_false, isAlloc, isRead]) | (refine yh ?_ ?_; simp (config := { maxSteps := 2000000 }) (disch := first | omega | rfl) only [sB, Nat.reduceEqDiff]; refine z03 ?_))
    exact ⟨_, _, D', rfl, (by simp only [sG, reduceCtorEq, t0] <;> rfl), (by simp only [sG, Nat.reduceEqDiff, t1] <;> rfl), (by simp only [sG, Nat.reduceEqDiff, t2] <;> rfl), (by simp only [sG, Nat.reduceEqDiff, t3] <;> rfl), (by simp only [sG, Nat.reduceEqDiff, t9] <;> rfl), (by simp only [sG, Nat.reduceEqDiff, t10] <;> rfl), r2, hm, ho1, hk2⟩
  ·exact ⟨_, _, u + 2, D3, rfl, rfl, by omega, by omega, (by simp only [sG, reduceCtorEq, t0] <;> rfl), (by simp only [sG, Nat.reduceEqDiff, t1] <;> rfl), (by simp only [sG, Nat.reduceEqDiff, t2] <;> rfl), (by simp only [sG, Nat.reduceEqDiff, t3] <;> rfl), (by simp only [sG, Nat.reduceEqDiff, t9] <;> rfl), (by simp only [sG, Nat.reduceEqDiff, t10] <;> rfl), (by simp only [sG, Nat.reduceEqDiff] <;> rfl), hr3, m3, ho3, hk3⟩
 clear t0 t1 t2 t3 t9 t10
 rintro st ⟨tm, H4, D4, rfl, t0, t1, t2, t3, t9, t10, hr4, m4, ho4, hk4⟩
 have hws : IntKind.i64.wrap ((s : Int) + 1) = ((s + 1 : Nat) : Int) := by rw [z06 (by omega) (by omega)]; omega
 try simp (config := { maxSteps := 2000000 }) (disch := first | omega | rfl) only [sA]
 repeat' (first | refine ya ?_ | refine yg ?_ | refine yd ?_ | (refine ye ?_) | (refine yf ?_) | (refine yc ?_; try simp only [z01, z00]) | (refine yb ?_; simp (config := { maxSteps := 2000000 }) (disch := first | omega | rfl) only [sB, Nat.reduceEqDiff, t10, hws]))
 exact ⟨5 - (s + 1), by omega, _, _, s + 1, u + 1, D4, rfl, rfl, by omega, by omega, by omega, (by simp only [sG, reduceCtorEq, t0] <;> rfl), (by simp only [sG, Nat.reduceEqDiff, t1] <;> rfl), (by simp only [sG, Nat.reduceEqDiff, t2] <;> rfl), (by simp only [sG, Nat.reduceEqDiff, t3] <;> rfl), (by simp only [sG, Nat.reduceEqDiff, t9] <;> rfl), (by simp only [sG, Nat.reduceEqDiff] <;> rfl), hr4, m4, ho4, hk4⟩
end Go.Proofs.hq
end

section
namespace Go.Hb
open Go Go.RowKit
theorem zcw {P : Program} {H : Heap} {t : TypeId} {x y : Operand} {k' : IntKind} {a : Nat} : dBin P .shr t x y (.int .u64 (a : Int)) (.int k' 16) H = some (.val (.int .u64 ((a / 65536 : Nat) : Int)) H) := by
 rw [bShr (by omega)]
 show some (Dr.val (.int .u64 ((a : Int).fdiv ((65536 : Nat) : Int))) H) = _
 rw [← Int.ofNat_fdiv]
theorem zfo {P : Program} {H : Heap} {t : TypeId} {x y : Operand} {k' : IntKind} {a : Nat} : dBin P .shr t x y (.int .u64 (a : Int)) (.int k' 8) H = some (.val (.int .u64 ((a / 256 : Nat) : Int)) H) := by
 rw [bShr (by omega)]
 show some (Dr.val (.int .u64 ((a : Int).fdiv ((256 : Nat) : Int))) H) = _
 rw [← Int.ofNat_fdiv]
end Go.Hb
namespace Go.Proofs.hq
open Go Go.RowKit Go.Hb
variable {ok : Ok}
set_option maxRecDepth 10000
attribute [local irreducible] LX LG EL STG SOP SGO SGD SAL SRD SEF SEG SLK SCK ES
theorem zjz {x : Nat} (hx : x < 16777216) {H : Heap} : EvF Tryz.prog okT 63 [.int .u64 (x : Int)] H fun v H' => v = .int .i64 (nbits x : Int) ∧ H' = H := by
 refine EvF.enter rfl Tryz.func63 (by decide) rfl ?_
 have d1 : decide ((x : Int) ≥ 4294967296) = false := decide_eq_false (by omega)
 by_cases h1 : 65536 ≤ x
 ·have e1 : nbits x = nbits (x / 65536) + 16 := z58 (e := 16) h1
  have d2 : decide ((x : Int) ≥ 65536) = true := decide_eq_true (by omega)
  have d3 : decide (((x / 65536 : Nat) : Int) ≥ 256) = false := decide_eq_false (by omega)
  repeat' (first | refine ya ?_ | refine yg ?_ | refine yd ?_ | (refine ye ?_; try simp only [z02]) | (refine yf ?_) | (refine yc ?_; try simp only [z01, z00]) | (refine yb ?_; simp (config := { maxSteps := 2000000 }) (disch := first | omega | rfl) only [sB, initTm, Nat.reduceEqDiff, reduceCtorEq, zgw, d1, d2, d3, zcw, z06, z3k]) | (refine yh ?_ ?_; simp (config := { maxSteps := 2000000 }) (disch := first | omega | rfl) only [sB, Nat.reduceEqDiff, reduceCtorEq]; refine z03 ?_) | (refine yi ?_ ?_; simp (config := { maxSteps := 2000000 }) (disch := first | omega | rfl) only [sB, Nat.reduceEqDiff, reduceCtorEq]; refine z03 ?_))
  rw [z0v Tryz.underlying9 (show x / 65536 < _ from by show _ < 256; omega)]
  generalize hB : byteAt _ (x / 65536) = B
  have hB' : B = nbits (x / 65536) := by rw [← hB]; exact z78 (by decide +kernel) (by omega)
  have hl := z2t (n := x / 65536) (by omega)
  repeat' (first | refine ya ?_ | refine yg ?_ | refine yd ?_ | (refine ye ?_) | (refine yf ?_) | (refine yc ?_; try simp only [z01, z00]) | (refine z0w ?_; simp (config := { maxSteps := 2000000 }) (disch := first | omega | rfl) only [sB, Nat.reduceEqDiff, reduceCtorEq, z9a, z06]))
  exact z04 rfl (by simp only [sB, Nat.reduceEqDiff, reduceCtorEq] <;> rfl) ⟨by simp only [Value.int.injEq, true_and]; omega, rfl⟩
 ·have d2 : decide ((x : Int) ≥ 65536) = false := decide_eq_false (by omega)
  by_cases h2 : 256 ≤ x
  ·have e2 : nbits x = nbits (x / 256) + 8 := z58 (e := 8) h2
   have d3 : decide ((x : Int) ≥ 256) = true := decide_eq_true (by omega)
   repeat' (first | refine ya ?_ | refine yg ?_ | refine yd ?_ | (refine ye ?_; try simp only [z02]) | (refine yf ?_) | (refine yc ?_; try simp only [z01, z00]) | (refine yb ?_; simp (config := { maxSteps := 2000000 }) (disch := first | omega | rfl) only [sB, initTm, Nat.reduceEqDiff, reduceCtorEq, zgw, d1, d2, d3, zfo, z06, z3k]) | (refine yh ?_ ?_; simp (config := { maxSteps := 2000000 }) (disch := first | omega | rfl) only [sB, Nat.reduceEqDiff, reduceCtorEq]; refine z03 ?_) | (refine yi ?_ ?_; simp (config := { maxSteps := 2000000 }) (disch := first | omega | rfl) only [sB, Nat.reduceEqDiff, reduceCtorEq]; refine z03 ?_))
   rw [z0v Tryz.underlying9 (show x / 256 < _ from by show _ < 256; omega)]
   generalize hB : byteAt _ (x / 256) = B
   have hB' : B = nbits (x / 256) := by rw [← hB]; exact z78 (by decide +kernel) (by omega)
   have hl := z2t (n := x / 256) (by omega)
   repeat' (first | refine ya ?_ | refine yg ?_ | refine yd ?_ | (refine ye ?_) | (refine yf ?_) | (refine yc ?_; try simp only [z01, z00]) | (refine z0w ?_; simp (config := { maxSteps := 2000000 }) (disch := first | omega | rfl) only [sB, Nat.reduceEqDiff, reduceCtorEq, z9a, z06]))
   exact z04 rfl (by simp only [sB, Nat.reduceEqDiff, reduceCtorEq] <;> rfl) ⟨by simp only [Value.int.injEq, true_and]; omega, rfl⟩
  ·have d3 : decide ((x : Int) ≥ 256) = false := decide_eq_false (by omega)
   repeat' (first | refine ya ?_ | refine yg ?_ | refine yd ?_ | (refine ye ?_; try simp only [z02]) | (refine yf ?_) | (refine yc ?_; try simp only [z01, z00]) | (refine yb ?_; simp (config := { maxSteps := 2000000 }) (disch := first | omega | rfl) only [sB, initTm, Nat.reduceEqDiff, reduceCtorEq, zgw, d1, d2, d3, z3k]) | (refine yh ?_ ?_; simp (config := { maxSteps := 2000000 }) (disch := first | omega | rfl) only [sB, Nat.reduceEqDiff, reduceCtorEq]; refine z03 ?_) | (refine yi ?_ ?_; simp (config := { maxSteps := 2000000 }) (disch := first | omega | rfl) only [sB, Nat.reduceEqDiff, reduceCtorEq]; refine z03 ?_))
   rw [z0v Tryz.underlying9 (show x < _ from by show _ < 256; omega)]
   generalize hB : byteAt _ x = B
   have hB' : B = nbits x := by rw [← hB]; exact z78 (by decide +kernel) (by omega)
   have hl := z2t (n := x) (by omega)
   repeat' (first | refine ya ?_ | refine yg ?_ | refine yd ?_ | (refine ye ?_) | (refine yf ?_) | (refine yc ?_; try simp only [z01, z00]) | (refine z0w ?_; simp (config := { maxSteps := 2000000 }) (disch := first | omega | rfl) only [sB, Nat.reduceEqDiff, reduceCtorEq, z9a, z06]))
   exact z04 rfl (by simp only [sB, Nat.reduceEqDiff, reduceCtorEq] <;> rfl) ⟨by simp only [Value.int.injEq, true_and]; omega, rfl⟩
theorem zi3 {x : Nat} (hx : x < 16777216) {H : Heap} : EvF Tryz.prog okT 46 [.int .u64 (x : Int)] H fun v H' => v = .int .i64 (nbits x : Int) ∧ H' = H := by
 refine EvF.enter rfl Tryz.func46 (by decide) rfl ?_
 repeat' (first | refine ya ?_ | refine yg ?_ | refine yd ?_ | (refine ye ?_; try simp only [z02]) | (refine yf ?_) | (refine yc ?_; try simp only [z01, z00]) | (refine yb ?_; simp (config := { maxSteps := 2000000 }) (disch := first | omega | rfl) only [sB, initTm, Nat.reduceEqDiff, reduceCtorEq, cl63]) | (refine yh ?_ ?_; simp (config := { maxSteps := 2000000 }) (disch := first | omega | rfl) only [z63]; refine z03 ?_) | (refine yi ?_ ?_; simp (config := { maxSteps := 2000000 }) (disch := first | omega | rfl) only [z63]; refine z03 ?_))
 refine (zjz hx).mono ?_
 rintro v H2 ⟨rfl, rfl⟩
 repeat' (first | refine ya ?_ | refine yg ?_ | refine yd ?_ | (refine ye ?_) | (refine yf ?_) | (refine yc ?_; try simp only [z01, z00]))
 exact z04 rfl (by simp only [sG, Nat.reduceEqDiff, reduceCtorEq] <;> rfl) ⟨rfl, rfl⟩
theorem zi4 {x : Nat} (h0 : 0 < x) : x < 2 ^ nbits x ∧ 2 ^ nbits x ≤ 2 * x := by
 rw [nbits, if_neg (by omega)]
 refine ⟨Nat.lt_log2_self, ?_⟩
 have := Nat.log2_self_le (n := x) (by omega)
 rw [Nat.pow_succ]; omega
theorem zfp {x : Nat} (h0 : 0 < x) (hx : x < 16777216) {H : Heap} : EvF Tryz.prog okT 73 [.int .i64 (x : Int)] H fun v H' => ∃ m : Nat, v = .int .u64 (m : Int) ∧ x < m ∧ m ≤ 2 * x ∧ H' = H := by
 refine EvF.enter rfl Tryz.func73 (by decide) rfl ?_
 have hw1 : IntKind.u64.wrap (x : Int) = (x : Int) := wrap_u64 (by omega) (by omega)
 repeat' (first | refine ya ?_ | refine yg ?_ | refine yd ?_ | (refine ye ?_) | (refine yf ?_) | (refine yc ?_; try simp only [z01, z00]) | (refine yb ?_; simp (config := { maxSteps := 2000000 }) (disch := first | omega | rfl) only [sB, initTm, Nat.reduceEqDiff, reduceCtorEq, zgv, cl46, hw1]))
 refine (zi3 hx).mono ?_
 rintro v H2 ⟨rfl, rfl⟩
 have hp := zi4 h0
 have hn : nbits x ≤ 24 := by
  rcases Nat.lt_or_ge 24 (nbits x) with q | q
  ·have := (z9c 24).1 q; omega
  ·exact q
 have hs : IntKind.u64.wrap (1 * 2 ^ (min ((nbits x : Nat) : Int).toNat IntKind.u64.bits)) = ((2 ^ nbits x : Nat) : Int) := by
  rw [Int.toNat_natCast, Nat.min_eq_left (by show nbits x ≤ 64; omega), Int.one_mul]
  have : ((2 : Int) ^ nbits x) = ((2 ^ nbits x : Nat) : Int) := by rw [Int.natCast_pow]; rfl
  rw [this, wrap_u64 (by omega) (by omega)]
 rw [Int.toNat_natCast] at hs
 repeat' (first | refine ya ?_ | refine yg ?_ | refine yd ?_ | (refine ye ?_) | (refine yf ?_) | (refine yc ?_; try simp only [z01, z00]) | (refine z0w ?_; simp (config := { maxSteps := 2000000 }) (disch := first | omega | rfl) only [sB, Nat.reduceEqDiff, reduceCtorEq, bShl, hs]))
 exact z04 rfl (by simp only [sG, Nat.reduceEqDiff, reduceCtorEq] <;> rfl) ⟨_, rfl, hp.1, hp.2, rfl⟩
set_option maxHeartbeats 4000000 in
theorem zms {s : Nat} {z : Int} {H : Heap} (hs : H.get s = some (.row [.int .u64 z] 99)) (hw : H.wf) : EvF Tryz.prog okT 74 [.pointer (some ⟨s, 0, none⟩)] H fun v H' =>
  ∃ y : Int, v = .int .u64 y ∧ H'.get s = some (.row [.int .u64 y] 99) ∧ HK (· = s) H H' := by
 refine EvF.enter rfl Tryz.func74 (by decide) rfl ?_
 have step : ∀ {H0 : Heap} {z : Int} (k : Nat) (y : Int), HK (· = s) H H0 → H0.get s = some (.row [.int .u64 z] 99) → ∃ H1, Heap.put ⟨H0.next + k, H0.t⟩ s (some (.row [.int .u64 y] 99)) = H1 ∧ HK (· = s) H H1 ∧ H1.get s = some (.row [.int .u64 y] 99) := fun {H0 z} k y hk hg =>
  ⟨_, rfl, (hk.bump k).put (.inl rfl) (Nat.lt_add_right _ (hk.wf _ _ hg)) _, by rw [get_put, if_pos rfl]⟩
 have ld : ∀ {H0 : Heap} {z : Int}, H0.get s = some (.row [.int .u64 z] 99) → H0.load ⟨s, 0, none⟩ 1 = some [.int .u64 z] := fun h => by simp only [Heap.load, Heap.cells, h]; rfl
 have l0 := ld hs
 (repeat refine ya ?_); refine yb ?_; simp (config := { maxSteps := 2000000 }) (disch := first | omega | rfl) only [sA, initTm]
 refine EvC.cut (fun st => ∃ tm H' y, st = ⟨tm, [], H'⟩ ∧ tm.get 0 = some (.pointer (some ⟨s, 0, none⟩)) ∧ HK (· = s) H H' ∧ H'.get s = some (.row [.int .u64 y] 99)) ?_ ?_
 ·repeat' (first | refine ya ?_ | refine yg ?_ | refine yd ?_ | (refine ye ?_) | (refine yf ?_) | (refine yc ?_; try simp only [z01, z00]) | (refine yj [([(0, 0), (1, 0), (2, 0), (3, 0), (4, 0), (5, 0), (6, 0), (7, 0), (8, 0)], some 9), ([], none)] ?_ ?_; kernel_rfl; simp (config := { maxSteps := 2000000 }) (disch := first | omega | rfl) only [sD, sB, Nat.reduceEqDiff, Nat.reduceAdd, one, reduceCtorEq, Int.reduceToNat, ld99, st99, z2e, z5b, l0, hs, bShl, bXor, isAlloc, isRead, reduceCtorEq]))
  exact ⟨_, _, _, rfl, (by simp only [sG, reduceCtorEq] <;> rfl), ((HK.refl (S := fun x => x = s) hw).bump _).put (.inl rfl) (Nat.lt_add_right _ (hw _ _ hs)) _, by rw [get_put, if_pos rfl]⟩
 clear l0
 rintro st ⟨tm, H1, z1, rfl, t0, k1, g1⟩
 have l1 := ld g1
 refine EvC.cut (fun st => ∃ tm H' y, st = ⟨tm, [], H'⟩ ∧ tm.get 0 = some (.pointer (some ⟨s, 0, none⟩)) ∧ HK (· = s) H H' ∧ H'.get s = some (.row [.int .u64 y] 99)) ?_ ?_
 ·repeat' (first | refine ya ?_ | refine yg ?_ | refine yd ?_ | (refine ye ?_) | (refine yf ?_) | (refine yc ?_; try simp only [z01, z00]) | (refine yj [([(0, 0), (1, 0), (2, 0), (3, 0), (4, 0), (5, 0), (6, 0), (7, 0), (8, 0)], some 9), ([], none)] ?_ ?_; kernel_rfl; simp (config := { maxSteps := 2000000 }) (disch := first | omega | rfl) only [sD, sB, Nat.reduceEqDiff, Nat.reduceAdd, one, reduceCtorEq, Int.reduceToNat, ld99, st99, t0, z2e, z5b, l1, g1, bShr, bXor, isAlloc, isRead, reduceCtorEq]))
  exact ⟨_, _, _, rfl, (by simp only [sG, reduceCtorEq, t0] <;> rfl), (k1.bump _).put (.inl rfl) (Nat.lt_add_right _ (k1.wf _ _ g1)) _, by rw [get_put, if_pos rfl]⟩
 clear l1 t0
 rintro st ⟨tm, H2, z2, rfl, t0, k2, g2⟩
 have l2 := ld g2
 refine EvC.cut (fun st => ∃ tm H' y, st = ⟨tm, [], H'⟩ ∧ tm.get 0 = some (.pointer (some ⟨s, 0, none⟩)) ∧ HK (· = s) H H' ∧ H'.get s = some (.row [.int .u64 y] 99)) ?_ ?_
 ·repeat' (first | refine ya ?_ | refine yg ?_ | refine yd ?_ | (refine ye ?_) | (refine yf ?_) | (refine yc ?_; try simp only [z01, z00]) | (refine yj [([(0, 0), (1, 0), (2, 0), (3, 0), (4, 0), (5, 0), (6, 0), (7, 0), (8, 0)], some 9), ([], none)] ?_ ?_; kernel_rfl; simp (config := { maxSteps := 2000000 }) (disch := first | omega | rfl) only [sD, sB, Nat.reduceEqDiff, Nat.reduceAdd, one, reduceCtorEq, Int.reduceToNat, ld99, st99, t0, z2e, z5b, l2, g2, bShl, bXor, isAlloc, isRead, reduceCtorEq]))
  exact ⟨_, _, _, rfl, (by simp only [sG, reduceCtorEq, t0] <;> rfl), (k2.bump _).put (.inl rfl) (Nat.lt_add_right _ (k2.wf _ _ g2)) _, by rw [get_put, if_pos rfl]⟩
 clear l2 t0
 rintro st ⟨tm, H3, z3, rfl, t0, k3, g3⟩
 have l3 := ld g3
 repeat' (first | refine ya ?_ | refine yg ?_ | refine yd ?_ | (refine ye ?_) | (refine yf ?_) | (refine yc ?_; try simp only [z01, z00]) | (refine yb ?_; simp (config := { maxSteps := 2000000 }) (disch := first | omega | rfl) only [sB, Nat.reduceEqDiff, ld99, t0, z2e, z5b, l3]))
 exact z04 rfl (by simp only [sG, Nat.reduceEqDiff] <;> rfl) ⟨_, rfl, g3, k3⟩
set_option maxHeartbeats 8000000 in
theorem zi5 {b n c a e : Nat} {D : Nat → Bnd} {H : Heap} (hr : RowB H 37 b n D) (hn : n ≤ most) (h1 : a + 12 < e) (h3 : e ≤ n) (hw : H.wf) :
  EvF Tryz.prog okT 56 [.slice (some ⟨b, 0, none⟩) n c, .int .i64 (a : Nat), .int .i64 (e : Nat), cvB] H fun _ H' =>
   ∃ D', RowB H' 37 b n D' ∧ Pm a e D D' ∧ HK (· = b) H H' := by
 have hms : most ≤ 1048576 := by simp [most]
 refine EvF.enter rfl Tryz.func56 (by decide) rfl ?_
 obtain ⟨cells0, hg0, -, -⟩ := hr.row
 have hbl := hw _ _ hg0
 have hwl : IntKind.i64.wrap ((e : Int) - (a : Int)) = ((e - a : Nat) : Int) := by rw [z06 (by omega) (by omega)]; omega
 generalize hl : e - a = l at *
 have d8 : decide (((l : Nat) : Int) ≥ 8) = true := decide_eq_true (by omega)
 have hu : IntKind.u64.wrap (l : Int) = (l : Int) := wrap_u64 (by omega) (by omega)
 have hq : IntKind.i64.wrap (((l : Nat) : Int).tdiv 4) = ((l / 4 : Nat) : Int) := by rw [Int.tdiv_eq_ediv_of_nonneg (by omega), z06 (by omega) (by omega)]; omega
 have m2 : IntKind.i64.wrap (((l / 4 : Nat) : Int) * 2) = ((l / 4 * 2 : Nat) : Int) := by rw [z06 (by omega) (by omega)]; omega
 have a2 : IntKind.i64.wrap ((a : Int) + ((l / 4 * 2 : Nat) : Int)) = ((a + l / 4 * 2 : Nat) : Int) := by rw [z06 (by omega) (by omega)]; omega
 have b1 : a + 1 ≤ a + l / 4 * 2 ∧ a + l / 4 * 2 + 1 < e := by omega
 generalize a + l / 4 * 2 = md at *
 have a3 : IntKind.i64.wrap ((md : Int) - 1) = ((md - 1 : Nat) : Int) := by rw [z06 (by omega) (by omega)]; omega
 have a4 : IntKind.i64.wrap ((md : Int) + 1) = ((md + 1 : Nat) : Int) := by rw [z06 (by omega) (by omega)]; omega
 (repeat refine ya ?_); refine yb ?_; simp (config := { maxSteps := 2000000 }) (disch := first | omega | rfl) only [sB, initTm, Nat.reduceEqDiff, Nat.reduceAdd, reduceCtorEq, hwl]
 (repeat refine ya ?_); refine yb ?_; simp (config := { maxSteps := 2000000 }) (disch := first | omega | rfl) only [sB, Nat.reduceEqDiff, reduceCtorEq, d8]
 (repeat refine ya ?_); refine yh (by simp (config := { maxSteps := 2000000 }) (disch := first | omega | rfl) only [sB, Nat.reduceEqDiff, reduceCtorEq]) ?_; (try refine ye ?_); (try simp only [z02, z09])
 (repeat refine ya ?_); refine yb ?_; simp (config := { maxSteps := 2000000 }) (disch := first | omega | rfl) only [sB, dAlloc, Nat.reduceEqDiff, one, reduceCtorEq, zn8, zr99, st99, hu]
 obtain ⟨H1, e1, hx1, g1, hn1, hw1⟩ := z3q hw (.row [.int .u64 0] 99) (.row [.int .u64 (l : Int)] 99)
 simp only [e1]
 clear e1
 have r1 := hr.heap (hx1.keep b hbl)
 (repeat refine ya ?_); refine yb ?_; simp (config := { maxSteps := 2000000 }) (disch := first | omega | rfl) only [sB, Nat.reduceEqDiff, reduceCtorEq, cl73]
 refine (zfp (x := l) (by omega) (by omega)).mono ?_
 rintro v H2 ⟨m, rfl, hm1, hm2, rfl⟩
 repeat' (first | refine ya ?_ | refine yg ?_ | refine yd ?_ | (refine ye ?_) | (refine yf ?_) | (refine yc ?_; try simp only [z01, z00]) | (refine yb ?_; simp (config := { maxSteps := 2000000 }) (disch := first | omega | rfl) only [sB, Nat.reduceEqDiff, reduceCtorEq, hq, bQuo, m2, a2, a3]))
 have hwm : IntKind.u64.wrap ((m : Int) - 1) = ((m - 1 : Nat) : Int) := by rw [wrap_u64 (by omega) (by omega)]; omega
 refine yk (fun k st => ∃ tm H' ix z D', st = ⟨tm, [], H'⟩ ∧ k = md + 2 - ix ∧ md - 1 ≤ ix ∧ ix ≤ md + 2 ∧ tm.get 0 = some (.slice (some ⟨b, 0, none⟩) n c) ∧ tm.get 1 = some (.int .i64 (a : Nat)) ∧ tm.get 8 = some (.int .i64 (l : Nat)) ∧ tm.get 9 = some (.pointer (some ⟨H.next, 0, none⟩)) ∧
  tm.get 10 = some (.int .u64 (m : Nat)) ∧ tm.get 11 = some (.int .i64 (ix : Nat)) ∧ H'.get H.next = some (.row [.int .u64 z] 99) ∧ RowB H' 37 b n D' ∧ Pm a e D D' ∧ HK (· = b) H H') ?_ 3 _ ?_
 ·rintro k st ⟨tm, H', ix, z, D', rfl, rfl, hi1, hi2, t0, t1, t8, t9, t10, t11, gz, hr', hm, hk⟩
  by_cases hle : ix ≤ md + 1
  rotate_left
  ·have hd : decide (((ix : Nat) : Int) ≤ ((md + 1 : Nat) : Int)) = false := decide_eq_false (by omega)
   repeat' (first | refine ya ?_ | refine yg ?_ | refine yd ?_ | (refine ye ?_) | (refine yf ?_; try simp only [sB]) | (refine yc ?_; try simp only [z01, z00]) | (refine yb ?_; simp (config := { maxSteps := 2000000 }) (disch := first | omega | rfl) only [sB, Nat.reduceEqDiff, t1, t8, t11, hq, bQuo, m2, a2, a4, hd]) | (refine yh ?_ ?_; simp (config := { maxSteps := 2000000 }) (disch := first | omega | rfl) only [sB, Nat.reduceEqDiff]; refine z03 ?_) | (refine yi ?_ ?_; simp (config := { maxSteps := 2000000 }) (disch := first | omega | rfl) only [sB, Nat.reduceEqDiff]; refine z03 ?_))
   exact z0p rfl ⟨D', hr', hm, hk⟩
  have hd : decide (((ix : Nat) : Int) ≤ ((md + 1 : Nat) : Int)) = true := decide_eq_true (by omega)
  (repeat refine ya ?_); refine yb ?_; simp (config := { maxSteps := 2000000 }) (disch := first | omega | rfl) only [sB, Nat.reduceEqDiff, t1, t8, t11, hq, bQuo, m2, a2, a4, hd]
  (repeat refine ya ?_); refine yh (by simp (config := { maxSteps := 2000000 }) (disch := first | omega | rfl) only [sB, Nat.reduceEqDiff]) ?_; (try refine ye ?_); (try simp only [z02, z09])
  refine ya ?_
  refine yd ?_
  (repeat refine ya ?_); refine yb ?_; simp (config := { maxSteps := 2000000 }) (disch := first | omega | rfl) only [sB, Nat.reduceEqDiff, cl74, t9]
  refine (zms gz hk.wf).mono ?_
  rintro v H2 ⟨y, rfl, gy, hk2⟩
  obtain ⟨cells1, hg1, -, -⟩ := hr'.row
  have hbl1 := hk.wf _ _ hg1
  have r2 := hr'.heap (hk2.keep b hbl1 (by intro q; have q' : b = H.next := q; omega))
  have hkk : HK (· = b) H H2 := hk.side hk2 (by intro j hj q; have q' : j = H.next := q; omega)
  obtain ⟨q, hq1, hq2⟩ := zmr (z := y) (m := m - 1) (by omega)
  have hcv : IntKind.i64.wrap (q : Int) = (q : Int) := z06 (by omega) (by omega)
  try simp (config := { maxSteps := 2000000 }) (disch := first | omega | rfl) only [sB, Nat.reduceEqDiff, zn9, t10, hwm, bAnd, hq1, hcv]
  refine EvC.cut (fun st => ∃ tm q, st = ⟨tm, [], H2⟩ ∧ q < l ∧ tm.get 0 = some (.slice (some ⟨b, 0, none⟩) n c) ∧ tm.get 1 = some (.int .i64 (a : Nat)) ∧ tm.get 8 = some (.int .i64 (l : Nat)) ∧ tm.get 9 = some (.pointer (some ⟨H.next, 0, none⟩)) ∧
   tm.get 10 = some (.int .u64 (m : Nat)) ∧ tm.get 11 = some (.int .i64 (ix : Nat)) ∧ tm.get 12 = some (.int .i64 (q : Nat))) ?_ ?_
  ·by_cases hql : l ≤ q
   ·have hd2 : decide ((q : Int) ≥ (l : Int)) = true := decide_eq_true (by omega)
    have hw3 : IntKind.i64.wrap ((q : Int) - (l : Int)) = ((q - l : Nat) : Int) := by rw [z06 (by omega) (by omega)]; omega
    repeat' (first | refine ya ?_ | refine yg ?_ | refine yd ?_ | (refine ye ?_) | (refine yf ?_) | (refine yc ?_; try simp only [z01, z00]) | (refine yb ?_; simp (config := { maxSteps := 2000000 }) (disch := first | omega | rfl) only [sB, Nat.reduceEqDiff, t8, hd2, hw3]) | (refine yh ?_ ?_; simp (config := { maxSteps := 2000000 }) (disch := first | omega | rfl) only [sB, Nat.reduceEqDiff]; refine z03 ?_))
    exact ⟨_, q - l, rfl, by omega, (by simp only [sG, reduceCtorEq, t0] <;> rfl), (by simp only [sG, Nat.reduceEqDiff, t1] <;> rfl), (by simp only [sG, Nat.reduceEqDiff, t8] <;> rfl), (by simp only [sG, Nat.reduceEqDiff, t9] <;> rfl), (by simp only [sG, Nat.reduceEqDiff, t10] <;> rfl), (by simp only [sG, Nat.reduceEqDiff, t11] <;> rfl), (by simp only [sG, Nat.reduceEqDiff] <;> rfl)⟩
   ·have hd2 : decide ((q : Int) ≥ (l : Int)) = false := decide_eq_false (by omega)
    repeat' (first | refine ya ?_ | refine yg ?_ | refine yd ?_ | (refine ye ?_; try simp only [true_and]) | (refine yf ?_) | (refine yc ?_; try simp only [z01, z00]) | (refine yb ?_; simp (config := { maxSteps := 2000000 }) (disch := first | omega | rfl) only [sB, Nat.reduceEqDiff, t8, hd2]) | (refine yh ?_ ?_; simp (config := { maxSteps := 2000000 }) (disch := first | omega | rfl) only [sB, Nat.reduceEqDiff]; refine z03 ?_) | (refine yi ?_ ?_; simp (config := { maxSteps := 2000000 }) (disch := first | omega | rfl) only [sB, Nat.reduceEqDiff]; refine z03 ?_))
    exact ⟨_, q, rfl, by omega, (by simp only [sG, reduceCtorEq, t0] <;> rfl), (by simp only [sG, Nat.reduceEqDiff, t1] <;> rfl), (by simp only [sG, Nat.reduceEqDiff, t8] <;> rfl), (by simp only [sG, Nat.reduceEqDiff, t9] <;> rfl), (by simp only [sG, Nat.reduceEqDiff, t10] <;> rfl), (by simp only [sG, Nat.reduceEqDiff, t11] <;> rfl), (by simp only [sG, Nat.reduceEqDiff] <;> rfl)⟩
  clear t0 t1 t8 t9 t10 t11 hq1 hq2 hcv q
  rintro st ⟨tm, q, rfl, hql, t0, t1, t8, t9, t10, t11, t12⟩
  have hw4 : IntKind.i64.wrap ((a : Int) + (q : Int)) = ((a + q : Nat) : Int) := by rw [z06 (by omega) (by omega)]; omega
  have hw5 : IntKind.i64.wrap ((ix : Int) + 1) = ((ix + 1 : Nat) : Int) := by rw [z06 (by omega) (by omega)]; omega
  have k1 : ix < n := by omega
  have k2 : a + q < n := by omega
  have l1 := r2.load k1
  have l2 := r2.load k2
  obtain ⟨cells, hg2, hl, he⟩ := r2.row
  have hbl2 := hkk.wf _ _ hg2
  have le1 : ix * 7 + 7 ≤ cells.length := by have := mul7 k1; omega
  have le2 : (a + q) * 7 + 7 ≤ cells.length := by have := mul7 k2; omega
  have hsw := fun H2 h2 => RowB.swap (H := H') (b := b) (T := 37) hl he k1 k2 H2 h2
  have ms := Pm.swap (a := a) (b := e) (i := ix) (j := a + q) (D := D') (by omega) (by omega) (by omega) (by omega)
  generalize swF ix (a + q) D' = D2 at *
  generalize hE1 : D' ix = E1 at *
  generalize hE2 : D' (a + q) = E2 at *
  have le3 : (a + q) * 7 + 7 ≤ (Hb.splice cells (ix * 7) E2.seven).length := by rw [z0c (vs := E2.seven) le1]; exact le2
  repeat' (first | refine ya ?_ | refine yg ?_ | refine yd ?_ | (refine ye ?_) | (refine yf ?_) | (refine yc ?_; try simp only [z01, z00]) | (refine yb ?_; simp (config := { maxSteps := 2000000 }) (disch := first | omega | rfl) only [sB, Nat.reduceEqDiff, t11, hw5]) | (refine yj [([(0, 0), (1, 0), (6, 0), (7, 0), (8, 0), (9, 0), (10, 0), (11, 0), (12, 0), (13, 0), (14, 0), (15, 0), (16, 0)], some 17), ([(2, 0), (3, 0), (4, 0), (5, 0), (18, 1)], some 19), ([], none)] ?_ ?_; kernel_rfl; simp (config := { maxSteps := 2000000 }) (disch := first | omega | rfl) only [sV, sD, sB, Nat.reduceEqDiff, Nat.reduceAdd, one, reduceCtorEq, ia27, ld37, st37, t0, t1, t11, t12, hw4, l1, l2, hg2, le1, le3, isAlloc, isRead, reduceCtorEq]))
  exact ⟨md + 2 - (ix + 1), by omega, _, _, ix + 1, y, D2, rfl, rfl, by omega, by omega, (by simp only [sG, reduceCtorEq, t0] <;> rfl), (by simp only [sG, Nat.reduceEqDiff, t1] <;> rfl), (by simp only [sG, Nat.reduceEqDiff, t8] <;> rfl), (by simp only [sG, Nat.reduceEqDiff, t9] <;> rfl), (by simp only [sG, Nat.reduceEqDiff, t10] <;> rfl), (by simp only [sG, Nat.reduceEqDiff] <;> rfl), by rw [get_put, if_neg (by omega), get_put, if_neg (by omega)]; exact gy, hsw _ (by rw [get_put, if_pos rfl]), hm.trans ms, hkk.two hbl2 _ _ _⟩
 ·exact ⟨_, _, md - 1, _, D, rfl, by omega, Nat.le_refl _, by omega, (by simp only [sG, reduceCtorEq] <;> rfl), (by simp only [sG, Nat.reduceEqDiff, reduceCtorEq] <;> rfl), (by simp only [sG, Nat.reduceEqDiff, reduceCtorEq] <;> rfl), (by simp only [sG, Nat.reduceEqDiff, reduceCtorEq] <;> rfl), (by simp only [sG, Nat.reduceEqDiff, reduceCtorEq] <;> rfl), (by simp only [sG, Nat.reduceEqDiff, reduceCtorEq] <;> rfl), g1, r1, Pm.refl D, hx1.hk _⟩
end Go.Proofs.hq
end

section
namespace Go.Hb
section
variable {α : Type}
def OutZ (z : α → Int) (a a' e' e : Nat) (D : Nat → α) : Prop := ∀ p q, a ≤ p → p < q → q < e → (p < a' ∨ e' ≤ q) → z (D p) ≤ z (D q)
theorem OutZ.start {z : α → Int} {a e : Nat} {D : Nat → α} : OutZ z a a e e D := fun p q h1 h2 h3 h4 => by omega
theorem OutZ.move {z : α → Int} {a a' e' e : Nat} {D E : Nat → α} (h : OutZ z a a' e' e D) (ha : a ≤ a') (he : e' ≤ e) (m : Pm a' e' D E) : OutZ z a a' e' e E := fun p q h1 h2 h3 h4 => by
 by_cases hp : a' ≤ p ∧ p < e'
 ·obtain ⟨j, j1, j2, ej⟩ := m.inn hp.1 hp.2
  rw [ej, m.out (k := q) (by omega)]
  exact h j q (by omega) (by omega) h3 (by omega)
 ·rw [m.out (k := p) (by omega)]
  by_cases hq : a' ≤ q ∧ q < e'
  ·obtain ⟨j, j1, j2, ej⟩ := m.inn hq.1 hq.2
   rw [ej]; exact h p j h1 (by omega) (by omega) (by omega)
  ·rw [m.out (k := q) (by omega)]; exact h p q h1 h2 h3 h4
theorem OutZ.fin {z : α → Int} {a a' e' e : Nat} {D : Nat → α} (h : OutZ z a a' e' e D) (i : InZ z a' e' D) : InZ z a e D := fun p q h1 h2 h3 => by
 by_cases hp : p < a' ∨ e' ≤ q
 ·exact h p q h1 h2 h3 hp
 ·exact i p q (by omega) h2 (by omega)
end
end Go.Hb
namespace Go.Proofs.hq
open Go Go.RowKit Go.Hb
variable {ok : Ok}
set_option maxRecDepth 10000
attribute [local irreducible] LX LG EL STG SOP SGO SGD SAL SRD SEF SEG SLK SCK ES
set_option maxHeartbeats 16000000 in
theorem zmt {b n c : Nat} (hn : n ≤ most) : ∀ (M : Nat) {a e lim : Nat} {D : Nat → Bnd} {H : Heap}, e - a ≤ M → a ≤ e → e ≤ n → lim ≤ 64 → RowB H 37 b n D → (0 < a → ∀ k, a ≤ k → k < e → (D (a - 1)).v ≤ (D k).v) → H.wf →
  EvF Tryz.prog okT 45 [.slice (some ⟨b, 0, none⟩) n c, .int .i64 (a : Nat), .int .i64 (e : Nat), .int .i64 (lim : Nat), cvB] H fun _ H' =>
   ∃ D', RowB H' 37 b n D' ∧ Pm a e D D' ∧ InZ Bnd.v a e D' ∧ HK (· = b) H H' := by
 have hms : most ≤ 1048576 := by simp [most]
 have hg := z2p
 intro M
 induction M with
 | zero =>
  intro a e lim D H hM hae hen hlim hr low hw
  obtain rfl : e = a := by omega
  refine EvF.enter rfl Tryz.func45 (by decide) rfl ?_
  have hwl : IntKind.i64.wrap ((e : Int) - (e : Int)) = 0 := by rw [z06 (by omega) (by omega)]; omega
  (repeat refine ya ?_); refine yb ?_; simp (config := { maxSteps := 2000000 }) (disch := first | omega | rfl) only [sA, initTm, Nat.reduceAdd]
  (repeat refine ya ?_); refine yb ?_; simp (config := { maxSteps := 2000000 }) (disch := first | omega | rfl) only [sA]
  (repeat refine ya ?_)
  refine yd (EvC.loop1 ?_)
  (repeat refine ya ?_)
  refine yd ?_
  have hd : decide ((0 : Int) ≤ 12) = true := rfl
  repeat' (first | refine ya ?_ | refine yg ?_ | refine yd ?_ | (refine ye ?_) | (refine yf ?_) | (refine yc ?_; try simp only [z01, z00]) | (refine yb ?_; simp (config := { maxSteps := 2000000 }) (disch := first | omega | rfl) only [sB, Nat.reduceEqDiff, reduceCtorEq, cl54, hwl, hd]) | (refine yh ?_ ?_; simp (config := { maxSteps := 2000000 }) (disch := first | omega | rfl) only [sB, Nat.reduceEqDiff, reduceCtorEq]; refine z03 ?_))
  refine (z8j hr hn (Nat.le_refl _) hen hw).mono ?_
  rintro v H2 ⟨D2, r2, m2, i2, k2⟩
  repeat' (first | refine ya ?_ | refine yg ?_ | refine yd ?_ | (refine ye ?_) | (refine yf ?_) | (refine yc ?_; try simp only [z01, z00]))
  exact z2j rfl ⟨D2, r2, m2, i2, k2⟩
 | succ M ih =>
 intro a e lim D H hM hae hen hlim hr low hw
 refine EvF.enter rfl Tryz.func45 (by decide) rfl ?_
 (repeat refine ya ?_); refine yb ?_; simp (config := { maxSteps := 2000000 }) (disch := first | omega | rfl) only [sA, initTm, Nat.reduceAdd]
 (repeat refine ya ?_); refine yb ?_; simp (config := { maxSteps := 2000000 }) (disch := first | omega | rfl) only [sA]
 (repeat refine ya ?_)
 refine yd (yk (fun k st => ∃ tm H' a' e' lim wb wp D', st = ⟨tm, [], H'⟩ ∧ k = e' - a' ∧ a ≤ a' ∧ a' ≤ e' ∧ e' ≤ e ∧ lim ≤ 64 ∧ tm.get 0 = some (.slice (some ⟨b, 0, none⟩) n c) ∧ tm.get 1 = some (.int .i64 (a' : Nat)) ∧ tm.get 2 = some (.int .i64 (e' : Nat)) ∧ tm.get 3 = some (.int .i64 (lim : Nat)) ∧ tm.get 4 = some cvB ∧
  tm.get 10 = some (.bool wb) ∧ tm.get 11 = some (.bool wp) ∧ RowB H' 37 b n D' ∧ Pm a e D D' ∧ OutZ Bnd.v a a' e' e D' ∧ HK (· = b) H H') ?_ (e - a) _ ?_)
 rotate_left
 ·exact ⟨_, _, a, e, lim, true, true, D, rfl, rfl, Nat.le_refl _, hae, Nat.le_refl _, hlim, (by simp only [sG, reduceCtorEq] <;> rfl), (by simp only [sG, Nat.reduceEqDiff, reduceCtorEq] <;> rfl), (by simp only [sG, Nat.reduceEqDiff, reduceCtorEq] <;> rfl), (by simp only [sG, Nat.reduceEqDiff, reduceCtorEq] <;> rfl), (by simp only [sG, Nat.reduceEqDiff, reduceCtorEq] <;> rfl), (by simp only [sG, Nat.reduceEqDiff, reduceCtorEq] <;> rfl), (by simp only [sG, Nat.reduceEqDiff, reduceCtorEq] <;> rfl), hr, Pm.refl D, OutZ.start, HK.refl hw⟩
 rintro k st ⟨tm, H0, a', e', lim, wb, wp, D0, rfl, rfl, ha', hae', he', hlim, t0, t1, t2, t3, t4, t10, t11, hr0, hm0, ho0, hk0⟩
 have lowD : ∀ D', Pm a e D D' → OutZ Bnd.v a a' e' e D' → 0 < a' → ∀ k, a' ≤ k → k < e' → (D' (a' - 1)).v ≤ (D' k).v := fun D' hm ho h0 k k1 k2 => by
  by_cases hq : a < a'
  ·exact ho (a' - 1) k (by omega) (by omega) (by omega) (.inl (by omega))
  ·obtain rfl : a' = a := by omega
   rw [hm.out (k := a' - 1) (.inl (by omega))]
   exact hm.all (P := fun x => (D (a' - 1)).v ≤ x.v) (low h0) k k1 (by omega)
 (repeat refine ya ?_)
 refine yd ?_
 have hwl : IntKind.i64.wrap ((e' : Int) - (a' : Int)) = ((e' - a' : Nat) : Int) := by rw [z06 (by omega) (by omega)]; omega
 by_cases h12 : e' - a' ≤ 12
 ·have hd : decide (((e' - a' : Nat) : Int) ≤ 12) = true := decide_eq_true (by omega)
  repeat' (first | refine ya ?_ | refine yg ?_ | refine yd ?_ | (refine ye ?_) | (refine yf ?_) | (refine yc ?_; try simp only [z01, z00]) | (refine yb ?_; simp (config := { maxSteps := 2000000 }) (disch := first | omega | rfl) only [sB, Nat.reduceEqDiff, reduceCtorEq, cl54, t0, t1, t2, t4, hwl, hd]) | (refine yh ?_ ?_; simp (config := { maxSteps := 2000000 }) (disch := first | omega | rfl) only [sB, Nat.reduceEqDiff]; refine z03 ?_))
  refine (z8j hr0 hn hae' (by omega) hk0.wf).mono ?_
  rintro v H2 ⟨D2, r2, m2, i2, k2⟩
  repeat' (first | refine ya ?_ | refine yg ?_ | refine yd ?_ | (refine ye ?_) | (refine yf ?_) | (refine yc ?_; try simp only [z01, z00]))
  exact z2j rfl ⟨D2, r2, hm0.trans (m2.wide ha' he'), (ho0.move ha' he' m2).fin i2, hk0.trans k2⟩
 have hd12 : decide (((e' - a' : Nat) : Int) ≤ 12) = false := decide_eq_false (by omega)
 by_cases hl0 : lim = 0
 ·have hd : ((lim : Int) == 0) = true := z1z (by omega)
  repeat' (first | refine ya ?_ | refine yg ?_ | refine yd ?_ | (refine ye ?_; try simp only [z02]) | (refine yf ?_) | (refine yc ?_; try simp only [z01, z00]) | (refine yb ?_; simp (config := { maxSteps := 2000000 }) (disch := first | omega | rfl) only [sB, Nat.reduceEqDiff, reduceCtorEq, cl55, t0, t1, t2, t3, t4, hwl, hd12, hd]) | (refine yh ?_ ?_; simp (config := { maxSteps := 2000000 }) (disch := first | omega | rfl) only [sB, Nat.reduceEqDiff]; refine z03 ?_) | (refine yi ?_ ?_; simp (config := { maxSteps := 2000000 }) (disch := first | omega | rfl) only [sB, Nat.reduceEqDiff]; refine z03 ?_))
  refine (zjx hr0 hn (by omega) (by omega) hk0.wf).mono ?_
  rintro v H2 ⟨D2, r2, m2, i2, k2⟩
  repeat' (first | refine ya ?_ | refine yg ?_ | refine yd ?_ | (refine ye ?_) | (refine yf ?_) | (refine yc ?_; try simp only [z01, z00]))
  exact z2j rfl ⟨D2, r2, hm0.trans (m2.wide ha' he'), (ho0.move ha' he' m2).fin i2, hk0.trans k2⟩
 have hdl : ((lim : Int) == 0) = false := z0x (by omega)
 (repeat refine ya ?_); refine yb ?_; simp (config := { maxSteps := 2000000 }) (disch := first | omega | rfl) only [sB, Nat.reduceEqDiff, t1, t2, hwl]
 (repeat refine ya ?_); refine yb ?_; simp (config := { maxSteps := 2000000 }) (disch := first | omega | rfl) only [sB, Nat.reduceEqDiff, hd12]
 (repeat refine ya ?_); refine yi (by simp (config := { maxSteps := 2000000 }) (disch := first | omega | rfl) only [sB, Nat.reduceEqDiff]) ?_; (try refine ye ?_); (try simp only [z02, z09])
 (repeat refine ya ?_); refine yb ?_; simp (config := { maxSteps := 2000000 }) (disch := first | omega | rfl) only [sB, Nat.reduceEqDiff, t3, hdl]
 (repeat refine ya ?_); refine yi (by simp (config := { maxSteps := 2000000 }) (disch := first | omega | rfl) only [sB, Nat.reduceEqDiff]) ?_; (try refine ye ?_); (try simp only [z02, z09])
 refine EvC.cut (fun st => ∃ tm H' lim D', st = ⟨tm, [], H'⟩ ∧ lim ≤ 64 ∧ tm.get 0 = some (.slice (some ⟨b, 0, none⟩) n c) ∧ tm.get 1 = some (.int .i64 (a' : Nat)) ∧ tm.get 2 = some (.int .i64 (e' : Nat)) ∧ tm.get 3 = some (.int .i64 (lim : Nat)) ∧ tm.get 4 = some cvB ∧
  tm.get 10 = some (.bool wb) ∧ tm.get 11 = some (.bool wp) ∧ tm.get 12 = some (.int .i64 ((e' - a' : Nat) : Int)) ∧ RowB H' 37 b n D' ∧ Pm a e D D' ∧ OutZ Bnd.v a a' e' e D' ∧ HK (· = b) H H') ?_ ?_
 ·cases wb with
  | true =>
   repeat' (first | refine ya ?_ | refine yg ?_ | refine yd ?_ | (refine ye ?_; try simp only [true_and]) | (refine yf ?_) | (refine yc ?_; try simp only [z01, z00]) | (refine yb ?_; simp (config := { maxSteps := 2000000 }) (disch := first | omega | rfl) only [sB, Nat.reduceEqDiff, t10, Bool.not_true]) | (refine yh ?_ ?_; simp (config := { maxSteps := 2000000 }) (disch := first | omega | rfl) only [sB, Nat.reduceEqDiff]; refine z03 ?_) | (refine yi ?_ ?_; simp (config := { maxSteps := 2000000 }) (disch := first | omega | rfl) only [sB, Nat.reduceEqDiff]; refine z03 ?_))
   exact ⟨_, _, lim, D0, rfl, hlim, (by simp only [sG, reduceCtorEq, t0] <;> rfl), (by simp only [sG, Nat.reduceEqDiff, t1] <;> rfl), (by simp only [sG, Nat.reduceEqDiff, t2] <;> rfl), (by simp only [sG, Nat.reduceEqDiff, t3] <;> rfl), (by simp only [sG, Nat.reduceEqDiff, t4] <;> rfl), (by simp only [sG, Nat.reduceEqDiff, t10] <;> rfl), (by simp only [sG, Nat.reduceEqDiff, t11] <;> rfl), (by simp only [sG, Nat.reduceEqDiff] <;> rfl), hr0, hm0, ho0, hk0⟩
  | false =>
   have hwm : IntKind.i64.wrap ((lim : Int) - 1) = ((lim - 1 : Nat) : Int) := by rw [z06 (by omega) (by omega)]; omega
   repeat' (first | refine ya ?_ | refine yg ?_ | refine yd ?_ | (refine ye ?_) | (refine yf ?_) | (refine yc ?_; try simp only [z01, z00]) | (refine yb ?_; simp (config := { maxSteps := 2000000 }) (disch := first | omega | rfl) only [sB, Nat.reduceEqDiff, reduceCtorEq, cl56, t0, t1, t2, t4, t10, Bool.not_false]) | (refine yh ?_ ?_; simp (config := { maxSteps := 2000000 }) (disch := first | omega | rfl) only [sB, Nat.reduceEqDiff]; refine z03 ?_))
   refine (zi5 hr0 hn (by omega) (by omega) hk0.wf).mono ?_
   rintro v H2 ⟨D2, r2, m2, k2⟩
   repeat' (first | refine ya ?_ | refine yg ?_ | refine yd ?_ | (refine ye ?_) | (refine yf ?_) | (refine yc ?_; try simp only [z01, z00]) | (refine yb ?_; simp (config := { maxSteps := 2000000 }) (disch := first | omega | rfl) only [sB, Nat.reduceEqDiff, t3, hwm]))
   exact ⟨_, _, lim - 1, D2, rfl, by omega, (by simp only [sG, reduceCtorEq, t0] <;> rfl), (by simp only [sG, Nat.reduceEqDiff, t1] <;> rfl), (by simp only [sG, Nat.reduceEqDiff, t2] <;> rfl), (by simp only [sG, Nat.reduceEqDiff] <;> rfl), (by simp only [sG, Nat.reduceEqDiff, t4] <;> rfl), (by simp only [sG, Nat.reduceEqDiff, t10] <;> rfl), (by simp only [sG, Nat.reduceEqDiff, t11] <;> rfl), (by simp only [sG, Nat.reduceEqDiff] <;> rfl), r2, hm0.trans (m2.wide ha' he'), ho0.move ha' he' m2, hk0.trans k2⟩
 clear t0 t1 t2 t3 t4 t10 t11 hr0 hm0 ho0 hk0 hdl hl0 hlim D0 lim
 rintro st ⟨tm, H1, lim, D1, rfl, hlim, t0, t1, t2, t3, t4, t10, t11, t12, hr1, hm1, ho1, hk1⟩
 (repeat refine ya ?_); refine yb ?_; simp (config := { maxSteps := 2000000 }) (disch := first | omega | rfl) only [sB, Nat.reduceEqDiff, cl57, t0, t1, t2, t4]
 refine (zi2 hr1 hn (by omega) (by omega) hk1.wf).mono ?_
 rintro v H2 ⟨p, hint, rfl, hp1, hp2, hx2⟩
 obtain ⟨cells1, hg1, -, -⟩ := hr1.row
 have hbl1 := hk1.wf _ _ hg1
 have hr2 := hr1.heap (hx2.keep b hbl1)
 have hk2 := hk1.hxs hx2
 clear hx2 hr1 hk1 hg1 hbl1
 try simp (config := { maxSteps := 2000000 }) (disch := first | omega | rfl) only [sB, Nat.reduceEqDiff]
 refine EvC.cut (fun st => ∃ tm H' p hint D', st = ⟨tm, [], H'⟩ ∧ a' ≤ p ∧ p < e' ∧ tm.get 0 = some (.slice (some ⟨b, 0, none⟩) n c) ∧ tm.get 1 = some (.int .i64 (a' : Nat)) ∧ tm.get 2 = some (.int .i64 (e' : Nat)) ∧ tm.get 3 = some (.int .i64 (lim : Nat)) ∧ tm.get 4 = some cvB ∧
  tm.get 10 = some (.bool wb) ∧ tm.get 11 = some (.bool wp) ∧ tm.get 12 = some (.int .i64 ((e' - a' : Nat) : Int)) ∧ tm.get 13 = some (.int .i64 (p : Nat)) ∧ tm.get 14 = some (.int .i64 hint) ∧ RowB H' 37 b n D' ∧ Pm a e D D' ∧ OutZ Bnd.v a a' e' e D' ∧ HK (· = b) H H') ?_ ?_
 ·by_cases h2 : hint = 2
  ·have hd : (hint == 2) = true := z1z h2
   have hw1 : IntKind.i64.wrap ((e' : Int) - 1) = ((e' - 1 : Nat) : Int) := by rw [z06 (by omega) (by omega)]; omega
   have hw2 : IntKind.i64.wrap ((p : Int) - (a' : Int)) = ((p - a' : Nat) : Int) := by rw [z06 (by omega) (by omega)]; omega
   have hw3 : IntKind.i64.wrap (((e' - 1 : Nat) : Int) - ((p - a' : Nat) : Int)) = ((e' - 1 - (p - a') : Nat) : Int) := by rw [z06 (by omega) (by omega)]; omega
   repeat' (first | refine ya ?_ | refine yg ?_ | refine yd ?_ | (refine ye ?_) | (refine yf ?_) | (refine yc ?_; try simp only [z01, z00]) | (refine yb ?_; simp (config := { maxSteps := 2000000 }) (disch := first | omega | rfl) only [sB, Nat.reduceEqDiff, reduceCtorEq, cl58, t0, t1, t2, t4, hd]) | (refine yh ?_ ?_; simp (config := { maxSteps := 2000000 }) (disch := first | omega | rfl) only [sB, Nat.reduceEqDiff]; refine z03 ?_))
   refine (zcu hr2 hn (by omega) (by omega) hk2.wf).mono ?_
   rintro v H3 ⟨D3, r3, m3, k3⟩
   repeat' (first | refine ya ?_ | refine yg ?_ | refine yd ?_ | (refine ye ?_) | (refine yf ?_) | (refine yc ?_; try simp only [z01, z00]) | (refine yb ?_; simp (config := { maxSteps := 2000000 }) (disch := first | omega | rfl) only [sB, Nat.reduceEqDiff, t1, t2, hw1, hw2, hw3]))
   exact ⟨_, _, e' - 1 - (p - a'), 1, D3, rfl, by omega, by omega, (by simp only [sG, reduceCtorEq, t0] <;> rfl), (by simp only [sG, Nat.reduceEqDiff, t1] <;> rfl), (by simp only [sG, Nat.reduceEqDiff, t2] <;> rfl), (by simp only [sG, Nat.reduceEqDiff, t3] <;> rfl), (by simp only [sG, Nat.reduceEqDiff, t4] <;> rfl), (by simp only [sG, Nat.reduceEqDiff, t10] <;> rfl), (by simp only [sG, Nat.reduceEqDiff, t11] <;> rfl), (by simp only [sG, Nat.reduceEqDiff, t12] <;> rfl), (by simp only [sG, Nat.reduceEqDiff] <;> rfl), (by simp only [sG, Nat.reduceEqDiff] <;> rfl), r3, hm1.trans (m3.wide ha' he'), ho1.move ha' he' m3, hk2.trans k3⟩
  ·have hd : (hint == 2) = false := z0x h2
   repeat' (first | refine ya ?_ | refine yg ?_ | refine yd ?_ | (refine ye ?_; try simp only [true_and]) | (refine yf ?_) | (refine yc ?_; try simp only [z01, z00]) | (refine yb ?_; simp (config := { maxSteps := 2000000 }) (disch := first | omega | rfl) only [sB, Nat.reduceEqDiff, hd]) | (refine yh ?_ ?_; simp (config := { maxSteps := 2000000 }) (disch := first | omega | rfl) only [sB, Nat.reduceEqDiff]; refine z03 ?_) | (refine yi ?_ ?_; simp (config := { maxSteps := 2000000 }) (disch := first | omega | rfl) only [sB, Nat.reduceEqDiff]; refine z03 ?_))
   exact ⟨_, _, p, hint, D1, rfl, hp1, hp2, (by simp only [sG, reduceCtorEq, t0] <;> rfl), (by simp only [sG, Nat.reduceEqDiff, t1] <;> rfl), (by simp only [sG, Nat.reduceEqDiff, t2] <;> rfl), (by simp only [sG, Nat.reduceEqDiff, t3] <;> rfl), (by simp only [sG, Nat.reduceEqDiff, t4] <;> rfl), (by simp only [sG, Nat.reduceEqDiff, t10] <;> rfl), (by simp only [sG, Nat.reduceEqDiff, t11] <;> rfl), (by simp only [sG, Nat.reduceEqDiff, t12] <;> rfl), (by simp only [sG, Nat.reduceEqDiff] <;> rfl), (by simp only [sG, Nat.reduceEqDiff] <;> rfl), hr2, hm1, ho1, hk2⟩
 clear t0 t1 t2 t3 t4 t10 t11 t12 hr2 hk2 hm1 ho1 hp1 hp2 p hint
 rintro st ⟨tm, H3, p, hint, D3, rfl, hp1, hp2, t0, t1, t2, t3, t4, t10, t11, t12, t13, t14, hr3, hm3, ho3, hk3⟩
 refine ya (EvC.join (fun st => ∃ tm H' D', st = ⟨tm, [], H'⟩ ∧ tm.get 0 = some (.slice (some ⟨b, 0, none⟩) n c) ∧ tm.get 1 = some (.int .i64 (a' : Nat)) ∧ tm.get 2 = some (.int .i64 (e' : Nat)) ∧ tm.get 3 = some (.int .i64 (lim : Nat)) ∧ tm.get 4 = some cvB ∧
  tm.get 10 = some (.bool wb) ∧ tm.get 11 = some (.bool wp) ∧ tm.get 12 = some (.int .i64 ((e' - a' : Nat) : Int)) ∧ tm.get 13 = some (.int .i64 (p : Nat)) ∧ RowB H' 37 b n D' ∧ Pm a e D D' ∧ OutZ Bnd.v a a' e' e D' ∧ HK (· = b) H H') ?_ ?_)
 ·cases wb with
  | false =>
   repeat' (first | refine ya ?_ | refine yg ?_ | refine yd ?_ | (refine ye ?_; try simp only [z02]) | (refine yf ?_) | (refine yc ?_; try simp only [z01, z00]) | (refine yb ?_; simp (config := { maxSteps := 2000000 }) (disch := first | omega | rfl) only [sB, Nat.reduceEqDiff, t10, Bool.false_eq_true]) | (refine yh ?_ ?_; simp (config := { maxSteps := 2000000 }) (disch := first | omega | rfl) only [sB, Nat.reduceEqDiff]; refine z03 ?_) | (refine yi ?_ ?_; simp (config := { maxSteps := 2000000 }) (disch := first | omega | rfl) only [sB, Nat.reduceEqDiff]; refine z03 ?_))
   exact ⟨_, _, D3, rfl, (by simp only [sG, reduceCtorEq, t0] <;> rfl), (by simp only [sG, Nat.reduceEqDiff, t1] <;> rfl), (by simp only [sG, Nat.reduceEqDiff, t2] <;> rfl), (by simp only [sG, Nat.reduceEqDiff, t3] <;> rfl), (by simp only [sG, Nat.reduceEqDiff, t4] <;> rfl), (by simp only [sG, Nat.reduceEqDiff, t10] <;> rfl), (by simp only [sG, Nat.reduceEqDiff, t11] <;> rfl), (by simp only [sG, Nat.reduceEqDiff, t12] <;> rfl), (by simp only [sG, Nat.reduceEqDiff, t13] <;> rfl), hr3, hm3, ho3, hk3⟩
  | true =>
  cases wp with
  | false =>
   repeat' (first | refine ya ?_ | refine yg ?_ | refine yd ?_ | (refine ye ?_; try simp only [z02]) | (refine yf ?_) | (refine yc ?_; try simp only [z01, z00]) | (refine yb ?_; simp (config := { maxSteps := 2000000 }) (disch := first | omega | rfl) only [sB, Nat.reduceEqDiff, t10, t11, Bool.false_eq_true]) | (refine yh ?_ ?_; simp (config := { maxSteps := 2000000 }) (disch := first | omega | rfl) only [sB, Nat.reduceEqDiff]; refine z03 ?_) | (refine yi ?_ ?_; simp (config := { maxSteps := 2000000 }) (disch := first | omega | rfl) only [sB, Nat.reduceEqDiff]; refine z03 ?_))
   exact ⟨_, _, D3, rfl, (by simp only [sG, reduceCtorEq, t0] <;> rfl), (by simp only [sG, Nat.reduceEqDiff, t1] <;> rfl), (by simp only [sG, Nat.reduceEqDiff, t2] <;> rfl), (by simp only [sG, Nat.reduceEqDiff, t3] <;> rfl), (by simp only [sG, Nat.reduceEqDiff, t4] <;> rfl), (by simp only [sG, Nat.reduceEqDiff, t10] <;> rfl), (by simp only [sG, Nat.reduceEqDiff, t11] <;> rfl), (by simp only [sG, Nat.reduceEqDiff, t12] <;> rfl), (by simp only [sG, Nat.reduceEqDiff, t13] <;> rfl), hr3, hm3, ho3, hk3⟩
  | true =>
  by_cases h1 : hint = 1
  rotate_left
  ·have hd : (hint == 1) = false := z0x h1
   repeat' (first | refine ya ?_ | refine yg ?_ | refine yd ?_ | (refine ye ?_; try simp only [z02]) | (refine yf ?_) | (refine yc ?_; try simp only [z01, z00]) | (refine yb ?_; simp (config := { maxSteps := 2000000 }) (disch := first | omega | rfl) only [sB, Nat.reduceEqDiff, t10, t11, t14, hd]) | (refine yh ?_ ?_; simp (config := { maxSteps := 2000000 }) (disch := first | omega | rfl) only [sB, Nat.reduceEqDiff]; refine z03 ?_) | (refine yi ?_ ?_; simp (config := { maxSteps := 2000000 }) (disch := first | omega | rfl) only [sB, Nat.reduceEqDiff]; refine z03 ?_))
   exact ⟨_, _, D3, rfl, (by simp only [sG, reduceCtorEq, t0] <;> rfl), (by simp only [sG, Nat.reduceEqDiff, t1] <;> rfl), (by simp only [sG, Nat.reduceEqDiff, t2] <;> rfl), (by simp only [sG, Nat.reduceEqDiff, t3] <;> rfl), (by simp only [sG, Nat.reduceEqDiff, t4] <;> rfl), (by simp only [sG, Nat.reduceEqDiff, t10] <;> rfl), (by simp only [sG, Nat.reduceEqDiff, t11] <;> rfl), (by simp only [sG, Nat.reduceEqDiff, t12] <;> rfl), (by simp only [sG, Nat.reduceEqDiff, t13] <;> rfl), hr3, hm3, ho3, hk3⟩
  have hd : (hint == 1) = true := z1z h1
  repeat' (first | refine ya ?_ | refine yg ?_ | refine yd ?_ | (refine ye ?_) | (refine yf ?_) | (refine yc ?_; try simp only [z01, z00]) | (refine yb ?_; simp (config := { maxSteps := 2000000 }) (disch := first | omega | rfl) only [sB, Nat.reduceEqDiff, reduceCtorEq, cl59, t0, t1, t2, t4, t10, t11, t14, hd]) | (refine yh ?_ ?_; simp (config := { maxSteps := 2000000 }) (disch := first | omega | rfl) only [sB, Nat.reduceEqDiff]; refine z03 ?_))
  refine (zcv hr3 hn (by omega) (by omega) (lowD D3 hm3 ho3) hk3.wf).mono ?_
  rintro v H4 ⟨t, D4, rfl, r4, m4, i4, k4⟩
  cases t with
  | true =>
   repeat' (first | refine ya ?_ | refine yg ?_ | refine yd ?_ | (refine ye ?_) | (refine yf ?_) | (refine yc ?_; try simp only [z01, z00]) | (refine yh ?_ ?_; simp (config := { maxSteps := 2000000 }) (disch := first | omega | rfl) only [sB, Nat.reduceEqDiff]; refine z03 ?_))
   exact z2j rfl ⟨D4, r4, hm3.trans (m4.wide ha' he'), (ho3.move ha' he' m4).fin (i4 rfl), hk3.trans k4⟩
  | false =>
   repeat' (first | refine ya ?_ | refine yg ?_ | refine yd ?_ | (refine ye ?_; try simp only [z02]) | (refine yf ?_) | (refine yc ?_; try simp only [z01, z00]) | (refine yh ?_ ?_; simp (config := { maxSteps := 2000000 }) (disch := first | omega | rfl) only [sB, Nat.reduceEqDiff]; refine z03 ?_) | (refine yi ?_ ?_; simp (config := { maxSteps := 2000000 }) (disch := first | omega | rfl) only [sB, Nat.reduceEqDiff]; refine z03 ?_))
   exact ⟨_, _, D4, rfl, (by simp only [sG, reduceCtorEq, t0] <;> rfl), (by simp only [sG, Nat.reduceEqDiff, t1] <;> rfl), (by simp only [sG, Nat.reduceEqDiff, t2] <;> rfl), (by simp only [sG, Nat.reduceEqDiff, t3] <;> rfl), (by simp only [sG, Nat.reduceEqDiff, t4] <;> rfl), (by simp only [sG, Nat.reduceEqDiff, t10] <;> rfl), (by simp only [sG, Nat.reduceEqDiff, t11] <;> rfl), (by simp only [sG, Nat.reduceEqDiff, t12] <;> rfl), (by simp only [sG, Nat.reduceEqDiff, t13] <;> rfl), r4, hm3.trans (m4.wide ha' he'), ho3.move ha' he' m4, hk3.trans k4⟩
 clear t0 t1 t2 t3 t4 t10 t11 t12 t13 t14 hr3 hm3 ho3 hk3 hint
 rintro st ⟨tm, H4, D4, rfl, t0, t1, t2, t3, t4, t10, t11, t12, t13, hr4, hm4, ho4, hk4⟩
 try simp (config := { maxSteps := 2000000 }) (disch := first | omega | rfl) only [z02]
 refine ya (EvC.join (fun st => ∃ tm H', st = ⟨tm, [], H'⟩ ∧ tm.get 0 = some (.slice (some ⟨b, 0, none⟩) n c) ∧ tm.get 1 = some (.int .i64 (a' : Nat)) ∧ tm.get 2 = some (.int .i64 (e' : Nat)) ∧ tm.get 3 = some (.int .i64 (lim : Nat)) ∧ tm.get 4 = some cvB ∧
  tm.get 10 = some (.bool wb) ∧ tm.get 11 = some (.bool wp) ∧ tm.get 12 = some (.int .i64 ((e' - a' : Nat) : Int)) ∧ tm.get 13 = some (.int .i64 (p : Nat)) ∧ RowB H' 37 b n D4 ∧ HK (· = b) H H') ?_ ?_)
 ·by_cases h0 : a' = 0
  ·have hd : decide ((a' : Int) > 0) = false := decide_eq_false (by omega)
   repeat' (first | refine ya ?_ | refine yg ?_ | refine yd ?_ | (refine ye ?_; try simp only [z02]) | (refine yf ?_) | (refine yc ?_; try simp only [z01, z00]) | (refine yj [([(0, 0), (1, 0), (2, 0), (3, 0), (4, 0), (5, 0), (6, 0), (7, 0), (8, 0), (9, 0), (10, 0), (11, 0), (12, 0)], some 13), ([(14, 1), (15, 1), (16, 1)], none)] ?_ ?_; kernel_rfl; simp (config := { maxSteps := 2000000 }) (disch := first | omega | rfl) only [sD, sB, Nat.reduceEqDiff, Nat.reduceAdd, t1, hd, Bool.false_eq_true, isAlloc, isRead]) | (refine yh ?_ ?_; simp (config := { maxSteps := 2000000 }) (disch := first | omega | rfl) only [sB, Nat.reduceEqDiff]; refine z03 ?_) | (refine yi ?_ ?_; simp (config := { maxSteps := 2000000 }) (disch := first | omega | rfl) only [sB, Nat.reduceEqDiff]; refine z03 ?_))
   exact ⟨_, _, rfl, (by simp only [sG, reduceCtorEq, t0] <;> rfl), (by simp only [sG, Nat.reduceEqDiff, t1] <;> rfl), (by simp only [sG, Nat.reduceEqDiff, t2] <;> rfl), (by simp only [sG, Nat.reduceEqDiff, t3] <;> rfl), (by simp only [sG, Nat.reduceEqDiff, t4] <;> rfl), (by simp only [sG, Nat.reduceEqDiff, t10] <;> rfl), (by simp only [sG, Nat.reduceEqDiff, t11] <;> rfl), (by simp only [sG, Nat.reduceEqDiff, t12] <;> rfl), (by simp only [sG, Nat.reduceEqDiff, t13] <;> rfl), hr4.heap rfl, hk4.bump _⟩
  have hd : decide ((a' : Int) > 0) = true := decide_eq_true (by omega)
  have hw1 : IntKind.i64.wrap ((a' : Int) - 1) = ((a' - 1 : Nat) : Int) := by rw [z06 (by omega) (by omega)]; omega
  have k1 : a' - 1 < n := by omega
  have k2 : p < n := by omega
  have l1 := hr4.load k1
  have l2 := hr4.load k2
  have hb := hk4.bump 17
  repeat' (first | refine ya ?_ | refine yg ?_ | refine yd ?_ | (refine ye ?_) | (refine yf ?_) | (refine yc ?_; try simp only [z01, z00]) | (refine yj [([(0, 0), (1, 0), (2, 0), (3, 0), (4, 0), (5, 0), (6, 0), (7, 0), (8, 0), (9, 0), (10, 0), (11, 0), (12, 0)], some 13), ([(14, 1), (15, 1), (16, 1)], none)] ?_ ?_; kernel_rfl; simp (config := { maxSteps := 2000000 }) (disch := first | omega | rfl) only [sD, sB, Nat.reduceEqDiff, Nat.reduceAdd, reduceCtorEq, ia27, ld37, t0, t1, t4, t13, hd, hw1, l1, l2, z0r, z0g hg, isAlloc, isRead, reduceCtorEq]))
  obtain ⟨cells0, hg0, -, -⟩ := hr4.row
  have hbl := hk4.wf _ _ hg0
  refine (z1x hb.wf).mono ?_
  rintro v H5 ⟨rfl, hx5⟩
  have hk5 := hb.hxs hx5
  have r5 := hr4.heap (H' := H5) (by rw [hx5.keep b (Nat.lt_add_right _ hbl)]; rfl)
  by_cases hc : (D4 (a' - 1)).v < (D4 p).v
  ·repeat' (first | refine ya ?_ | refine yg ?_ | refine yd ?_ | (refine ye ?_; try simp only [z02]) | (refine yf ?_) | (refine yc ?_; try simp only [z01, z00]) | (refine z0f ?_; simp (config := { maxSteps := 2000000 }) (disch := first | omega | rfl) only [sD, sB, Nat.reduceEqDiff, cz_t hc, Bool.not_true, isAlloc, isRead]) | (refine yh ?_ ?_; simp (config := { maxSteps := 2000000 }) (disch := first | omega | rfl) only [sB, Nat.reduceEqDiff]; refine z03 ?_) | (refine yi ?_ ?_; simp (config := { maxSteps := 2000000 }) (disch := first | omega | rfl) only [sB, Nat.reduceEqDiff]; refine z03 ?_))
   exact ⟨_, _, rfl, (by simp only [sG, reduceCtorEq, t0] <;> rfl), (by simp only [sG, Nat.reduceEqDiff, t1] <;> rfl), (by simp only [sG, Nat.reduceEqDiff, t2] <;> rfl), (by simp only [sG, Nat.reduceEqDiff, t3] <;> rfl), (by simp only [sG, Nat.reduceEqDiff, t4] <;> rfl), (by simp only [sG, Nat.reduceEqDiff, t10] <;> rfl), (by simp only [sG, Nat.reduceEqDiff, t11] <;> rfl), (by simp only [sG, Nat.reduceEqDiff, t12] <;> rfl), (by simp only [sG, Nat.reduceEqDiff, t13] <;> rfl), r5, hk5⟩
  ·repeat' (first | refine ya ?_ | refine yg ?_ | refine yd ?_ | (refine ye ?_) | (refine yf ?_) | (refine yc ?_; try simp only [z01, z00]) | (refine yb ?_; simp (config := { maxSteps := 2000000 }) (disch := first | omega | rfl) only [sB, Nat.reduceEqDiff, reduceCtorEq, cl60, t0, t1, t2, t4, t13]) | (refine z0f ?_; simp (config := { maxSteps := 2000000 }) (disch := first | omega | rfl) only [sD, sB, Nat.reduceEqDiff, cz_f hc, Bool.not_false, isAlloc, isRead]) | (refine yh ?_ ?_; simp (config := { maxSteps := 2000000 }) (disch := first | omega | rfl) only [sB, Nat.reduceEqDiff]; refine z03 ?_))
   refine (zfn r5 hn hp1 hp2 (by omega) hk5.wf).mono ?_
   rintro v H6 ⟨m, D6, rfl, q1, q2, r6, m6, lo6, hi6, k6⟩
   repeat' (first | refine ya ?_ | refine yg ?_ | refine yd ?_ | (refine ye ?_) | (refine yf ?_; try simp only [sB, reduceCtorEq]) | (refine yc ?_; try simp only [z01, z00]) | (refine yb ?_; simp (config := { maxSteps := 2000000 }) (disch := first | omega | rfl) only [sB, Nat.reduceEqDiff]))
   have ho6 := ho4.move ha' he' m6
   have hm6 := hm4.trans (m6.wide ha' he')
   have lw := lowD D6 hm6 ho6 (by omega)
   have lx : (D6 (a' - 1)).v = (D4 (a' - 1)).v := by rw [m6.out (.inl (by omega))]
   exact ⟨e' - m, by omega, _, _, m, e', lim, wb, wp, D6, rfl, rfl, by omega, by omega, he', hlim, (by simp only [sG, reduceCtorEq, t0] <;> rfl), (by simp only [sG, Nat.reduceEqDiff] <;> rfl), (by simp only [sG, Nat.reduceEqDiff, t2] <;> rfl), (by simp only [sG, Nat.reduceEqDiff, t3] <;> rfl), (by simp only [sG, Nat.reduceEqDiff, t4] <;> rfl), (by simp only [sG, Nat.reduceEqDiff, t10] <;> rfl), (by simp only [sG, Nat.reduceEqDiff, t11] <;> rfl), r6, hm6, fun p' q' p1 p2 p3 p4 => by
    by_cases c1 : p' < a' ∨ e' ≤ q'
    ·exact ho6 p' q' p1 p2 p3 c1
    ·have x1 := lo6 p' (by omega) (by omega)
     have x2 := lw q' (by omega) (by omega)
     omega, hk5.trans k6⟩
 clear t0 t1 t2 t3 t4 t10 t11 t12 t13 hr4 hk4
 rintro st ⟨tm, H5, rfl, t0, t1, t2, t3, t4, t10, t11, t12, t13, hr5, hk5⟩
 try simp (config := { maxSteps := 2000000 }) (disch := first | omega | rfl) only [z02]
 (repeat refine ya ?_); refine yb ?_; simp (config := { maxSteps := 2000000 }) (disch := first | omega | rfl) only [sB, Nat.reduceEqDiff, cl61, t0, t1, t2, t4, t13]
 refine (zjy hr5 hn hp1 hp2 (by omega) hk5.wf).mono ?_
 rintro v H6 ⟨m, f, D6, rfl, q1, q2, r6, m6, lo6, hi6, k6⟩
 have ho6 := ho4.move ha' he' m6
 have hm6 := hm4.trans (m6.wide ha' he')
 have hk6 := hk5.trans k6
 have hw1 : IntKind.i64.wrap ((m : Int) - (a' : Int)) = ((m - a' : Nat) : Int) := by rw [z06 (by omega) (by omega)]; omega
 have hw2 : IntKind.i64.wrap ((e' : Int) - (m : Int)) = ((e' - m : Nat) : Int) := by rw [z06 (by omega) (by omega)]; omega
 have hw3 : IntKind.i64.wrap ((m : Int) + 1) = ((m + 1 : Nat) : Int) := by rw [z06 (by omega) (by omega)]; omega
 have hq8 : IntKind.i64.wrap (((e' - a' : Nat) : Int).tdiv 8) = (((e' - a') / 8 : Nat) : Int) := by rw [Int.tdiv_eq_ediv_of_nonneg (by omega), z06 (by omega) (by omega)]; omega
 by_cases hll : m - a' < e' - m
 ·repeat' (first | refine ya ?_ | refine yg ?_ | refine yd ?_ | (refine ye ?_) | (refine yf ?_) | (refine yc ?_; try simp only [z01, z00]) | (refine yb ?_; simp (config := { maxSteps := 2000000 }) (disch := first | omega | rfl) only [sB, Nat.reduceEqDiff, reduceCtorEq, cl45, t0, t1, t2, t3, t4, t12, hw1, hw2, bQuo, hq8, decl hll]) | (refine z0w ?_; simp (config := { maxSteps := 2000000 }) (disch := first | omega | rfl) only [sB, Nat.reduceEqDiff]) | (refine yh ?_ ?_; simp (config := { maxSteps := 2000000 }) (disch := first | omega | rfl) only [sB, Nat.reduceEqDiff]; refine z03 ?_))
  refine (ih (a := a') (e := m) (lim := lim) (by omega) q1 (by omega) hlim r6 (fun h0 k k1 k2 => lowD D6 hm6 ho6 h0 k k1 (by omega)) hk6.wf).mono ?_
  rintro v H7 ⟨D7, r7, m7, i7, k7⟩
  repeat' (first | refine ya ?_ | refine yg ?_ | refine yd ?_ | (refine ye ?_) | (refine yf ?_) | (refine yc ?_; try simp only [z01, z00]) | (refine yb ?_; simp (config := { maxSteps := 2000000 }) (disch := first | omega | rfl) only [sB, Nat.reduceEqDiff, hw3]))
  have ho7 := ho6.move ha' he' (m7.wide (Nat.le_refl _) (by omega))
  exact ⟨e' - (m + 1), by omega, _, _, m + 1, e', lim, _, f, D7, rfl, rfl, by omega, by omega, he', hlim, (by simp only [sG, reduceCtorEq, t0] <;> rfl), (by simp only [sG, Nat.reduceEqDiff] <;> rfl), (by simp only [sG, Nat.reduceEqDiff, t2] <;> rfl), (by simp only [sG, Nat.reduceEqDiff, t3] <;> rfl), (by simp only [sG, Nat.reduceEqDiff, t4] <;> rfl), (by simp only [sB, Nat.reduceEqDiff] <;> rfl), (by simp only [sG, Nat.reduceEqDiff] <;> rfl), r7, hm6.trans (m7.wide ha' (by omega)), fun p' q' p1 p2 p3 p4 => by
   by_cases c1 : p' < a' ∨ e' ≤ q'
   ·exact ho7 p' q' p1 p2 p3 c1
   ·by_cases c2 : q' < m
    ·exact i7 p' q' (by omega) p2 c2
    ·by_cases c3 : p' = m
     ·subst c3
      rw [m7.out (.inr (Nat.le_refl _)), m7.out (k := q') (.inr (by omega))]
      exact hi6 q' (by omega) (by omega)
     ·obtain ⟨j, j1, j2, ej⟩ := m7.inn (k := p') (by omega) (by omega)
      rw [ej, m7.out (k := q') (.inr (by omega))]
      have x1 := lo6 j j1 j2
      by_cases c4 : q' = m
      ·subst c4; omega
      ·have x2 := hi6 q' (by omega) (by omega)
       omega, hk6.trans k7⟩
 ·repeat' (first | refine ya ?_ | refine yg ?_ | refine yd ?_ | (refine ye ?_) | (refine yf ?_) | (refine yc ?_; try simp only [z01, z00]) | (refine yb ?_; simp (config := { maxSteps := 2000000 }) (disch := first | omega | rfl) only [sB, Nat.reduceEqDiff, reduceCtorEq, cl45, t0, t1, t2, t3, t4, t12, hw1, hw2, hw3, bQuo, hq8, decn hll]) | (refine z0w ?_; simp (config := { maxSteps := 2000000 }) (disch := first | omega | rfl) only [sB, Nat.reduceEqDiff]) | (refine yh ?_ ?_; simp (config := { maxSteps := 2000000 }) (disch := first | omega | rfl) only [sB, Nat.reduceEqDiff]; refine z03 ?_) | (refine yi ?_ ?_; simp (config := { maxSteps := 2000000 }) (disch := first | omega | rfl) only [sB, Nat.reduceEqDiff]; refine z03 ?_))
  refine (ih (a := m + 1) (e := e') (lim := lim) (by omega) (by omega) (by omega) hlim r6 (fun h0 k k1 k2 => hi6 k (by omega) k2) hk6.wf).mono ?_
  rintro v H7 ⟨D7, r7, m7, i7, k7⟩
  repeat' (first | refine ya ?_ | refine yg ?_ | refine yd ?_ | (refine ye ?_) | (refine yf ?_) | (refine yc ?_; try simp only [z01, z00]) | (refine yb ?_; simp (config := { maxSteps := 2000000 }) (disch := first | omega | rfl) only [sB, Nat.reduceEqDiff]))
  have ho7 := ho6.move ha' he' (m7.wide (by omega) (Nat.le_refl _))
  exact ⟨m - a', by omega, _, _, a', m, lim, _, f, D7, rfl, rfl, ha', q1, by omega, hlim, (by simp only [sG, reduceCtorEq, t0] <;> rfl), (by simp only [sG, Nat.reduceEqDiff, t1] <;> rfl), (by simp only [sG, Nat.reduceEqDiff] <;> rfl), (by simp only [sG, Nat.reduceEqDiff, t3] <;> rfl), (by simp only [sG, Nat.reduceEqDiff, t4] <;> rfl), (by simp only [sB, Nat.reduceEqDiff] <;> rfl), (by simp only [sG, Nat.reduceEqDiff] <;> rfl), r7, hm6.trans (m7.wide (by omega) he'), fun p' q' p1 p2 p3 p4 => by
   by_cases c1 : p' < a' ∨ e' ≤ q'
   ·exact ho7 p' q' p1 p2 p3 c1
   ·by_cases c2 : m < p'
    ·exact i7 p' q' (by omega) p2 (by omega)
    ·rw [m7.out (k := p') (.inl (by omega))]
     by_cases c3 : q' = m
     ·subst c3
      rw [m7.out (.inl (by omega))]
      have x1 := lo6 p' (by omega) (by omega)
      omega
     ·obtain ⟨j, j1, j2, ej⟩ := m7.inn (k := q') (by omega) (by omega)
      rw [ej]
      have x2 := hi6 j (by omega) j2
      by_cases c4 : p' = m
      ·subst c4; exact x2
      ·have x1 := lo6 p' (by omega) (by omega)
       omega, hk6.trans k7⟩
set_option maxHeartbeats 4000000 in
theorem zk0 {b n c : Nat} {D : Nat → Bnd} {H : Heap} (hr : RowB H 37 b n D) (hn : n ≤ most) (hw : H.wf) :
  EvF Tryz.prog okT 25 [.slice (some ⟨b, 0, none⟩) n c, cvB] H fun _ H' => ∃ D', RowB H' 37 b n D' ∧ Pm 0 n D D' ∧ InZ Bnd.v 0 n D' ∧ HK (· = b) H H' := by
 have hms : most ≤ 1048576 := by simp [most]
 refine EvF.enter rfl Tryz.func25 (by decide) rfl ?_
 have hu : IntKind.u64.wrap (n : Int) = (n : Int) := wrap_u64 (by omega) (by omega)
 have hlim : nbits n ≤ 64 := by
  rcases Nat.lt_or_ge 64 (nbits n) with q | q
  ·have := (z9c 64).1 q; omega
  ·exact q
 repeat' (first | refine ya ?_ | refine yg ?_ | refine yd ?_ | (refine ye ?_) | (refine yf ?_) | (refine yc ?_; try simp only [z01, z00]) | (refine yb ?_; simp (config := { maxSteps := 2000000 }) (disch := first | omega | rfl) only [sB, initTm, Nat.reduceEqDiff, reduceCtorEq, ln27, zgv, cl46, cl45, hu]))
 refine (zi3 (x := n) (by omega)).mono ?_
 rintro v H2 ⟨rfl, rfl⟩
 repeat' (first | refine ya ?_ | refine yg ?_ | refine yd ?_ | (refine ye ?_) | (refine yf ?_) | (refine yc ?_; try simp only [z01, z00]))
 refine (zmt hn n (a := 0) (e := n) (by omega) (Nat.zero_le _) (Nat.le_refl _) hlim hr (fun h => by omega) hw).mono ?_
 rintro v H3 ⟨D3, r3, m3, i3, k3⟩
 repeat' (first | refine ya ?_ | refine yg ?_ | refine yd ?_ | (refine ye ?_) | (refine yf ?_) | (refine yc ?_; try simp only [z01, z00]))
 exact z0p rfl ⟨D3, r3, m3, i3, k3⟩
end Go.Proofs.hq
end

section
namespace Go.Proofs.hq
open Go Go.RowKit Go.Hb
variable {ok : Ok}
set_option maxRecDepth 10000
attribute [local irreducible] LX LG EL STG SOP SGO SGD SAL SRD SEF SEG SLK SCK ES
def chkL : List Tm → Int
 | [] => 0
 | t :: l => if checkS t = 0 then chkL l else checkS t
theorem z5f {l : List Tm} {i : Nat} (h : i < l.length) : chkL (l.drop i) = if checkS l[i] = 0 then chkL (l.drop (i + 1)) else checkS l[i] := by
 rw [List.drop_eq_getElem_cons h, chkL]
theorem z40 : ∀ {l : List Tm}, chkL l = 0 → ∀ t ∈ l, checkS t = 0
 | [], _, t, h => by simp at h
 | u :: l, h, t, ht => by
  rw [chkL] at h
  split at h
  ·rename_i h0
   rcases List.mem_cons.1 ht with rfl | ht
   ·exact h0
   ·exact z40 h t ht
  ·rename_i h0; exact absurd h h0
theorem zi6 {l : List Tm} {a : Option Addr} {c : Nat} {cells : Nat → List Value} {H : Heap} (rl : RepL H l a c cells) (hw : H.wf) :
  EvF Tryz.prog okT 20 [.slice a l.length c] H fun v H' => v = .int .i64 (chkL l) ∧ HX H H' := by
 have hm := rl.max
 refine EvF.enter rfl Tryz.func20 (by decide) rfl ?_
 repeat' (first | refine ya ?_ | refine yg ?_ | refine yd ?_ | (refine ye ?_) | (refine yf ?_) | (refine yc ?_; try simp only [z01, z00]) | (refine yb ?_; simp (config := { maxSteps := 2000000 }) (disch := first | omega | rfl) only [sB, initTm, Nat.reduceEqDiff, reduceCtorEq, ln23]))
 refine yk (fun k st => ∃ tm H' i, st = ⟨tm, [], H'⟩ ∧ k = l.length - i ∧ i ≤ l.length ∧ chkL (l.drop i) = chkL l ∧ tm.get 6 = some (.slice a l.length c) ∧ tm.get 7 = some (.int .i64 l.length) ∧ tm.get 8 = some (.int .i64 (i : Nat)) ∧ HX H H') ?_ l.length _ ?_
 ·rintro k st ⟨tm, H', i, rfl, rfl, hi, hc, g6, g7, g8, hx⟩
  by_cases hlt : i < l.length
  ·obtain ⟨b, o, a1, c1, rfl, hld, hr⟩ := rl.el hlt
   have hld1 := hx.load hw hld
   repeat' (first | refine ya ?_ | refine yg ?_ | refine yd ?_ | (refine ye ?_; try simp only [z02]) | (refine yf ?_) | (refine yc ?_; try simp only [z01, z00]) | (refine yb ?_; simp (config := { maxSteps := 2000000 }) (disch := first | omega | rfl) only [sB, dAlloc, Nat.reduceEqDiff, Nat.reduceAdd, one, cutC, ia23, ld25, zr25, st25, cl19, g6, g7, g8, decl hlt, hld1]) | (refine yh ?_ ?_; simp (config := { maxSteps := 2000000 }) (disch := first | omega | rfl) only [sB]; refine z03 ?_))
   have hx2 := (hx.new (some (.row [.int .i64 0, .string ByteArray.empty, .string ByteArray.empty, .int .u64 0, .int .i64 0, .slice none 0 0] 25))).put (i := H'.next) hx.next (Nat.lt_succ_self _) (some (.row (six l[i] a1 c1) 25))
   refine (zcm _ _ _ (hr.mono hx2 hw) hx2.wf).mono ?_
   rintro v H3 ⟨rfl, hx3⟩
   by_cases h0 : checkS l[i] = 0
   ·repeat' (first | refine ya ?_ | refine yg ?_ | refine yd ?_ | (refine ye ?_; try simp only [sA]) | (refine yf ?_) | (refine yc ?_; try simp only [z01, z00]) | (refine yb ?_; simp (config := { maxSteps := 2000000 }) (disch := first | omega | rfl) only [sB, Nat.reduceEqDiff, g8, z14 h0, z06]) | (refine yh ?_ ?_; simp (config := { maxSteps := 2000000 }) (disch := first | omega | rfl) only [sB, Nat.reduceEqDiff]; refine z03 ?_) | (refine yi ?_ ?_; simp (config := { maxSteps := 2000000 }) (disch := first | omega | rfl) only [sB, Nat.reduceEqDiff]; refine z03 ?_))
    exact ⟨l.length - (i + 1), by omega, _, _, i + 1, rfl, rfl, by omega, by rw [← hc, z5f hlt, if_pos h0], (by simp only [sG, Nat.reduceEqDiff, g6] <;> rfl), (by simp only [sG, Nat.reduceEqDiff, g7] <;> rfl), (by simp only [sB, Nat.reduceEqDiff] <;> rfl), hx2.trans hx3⟩
   ·repeat' (first | refine ya ?_ | refine yg ?_ | refine yd ?_ | (refine ye ?_) | (refine yf ?_) | (refine yc ?_; try simp only [z01, z00]) | (refine yb ?_; simp (config := { maxSteps := 2000000 }) (disch := first | omega | rfl) only [sB, Nat.reduceEqDiff, z35 h0]) | (refine yh ?_ ?_; simp (config := { maxSteps := 2000000 }) (disch := first | omega | rfl) only [sB, Nat.reduceEqDiff]; refine z03 ?_))
    exact z04 rfl (by simp only [sB, Nat.reduceEqDiff] <;> rfl) ⟨by rw [← hc, z5f hlt, if_neg h0], hx2.trans hx3⟩
  ·repeat' (first | refine ya ?_ | refine yg ?_ | refine yd ?_ | (refine ye ?_) | (refine yf ?_; try simp only [sB]) | (refine yc ?_; try simp only [z01, z00]) | (refine yb ?_; simp (config := { maxSteps := 2000000 }) (disch := first | omega | rfl) only [sA, g7, g8, decn hlt]) | (refine yh ?_ ?_; simp (config := { maxSteps := 2000000 }) (disch := first | omega | rfl) only [sB]; refine z03 ?_) | (refine yi ?_ ?_; simp (config := { maxSteps := 2000000 }) (disch := first | omega | rfl) only [sB]; refine z03 ?_))
   exact z04 rfl (by simp only [sB, Nat.reduceEqDiff] <;> rfl) ⟨by rw [← hc, List.drop_of_length_le (by omega), chkL], hx⟩
 ·exact ⟨_, _, 0, rfl, rfl, by omega, rfl, (by simp only [sG, Nat.reduceEqDiff, reduceCtorEq] <;> rfl), (by simp only [sG, Nat.reduceEqDiff, reduceCtorEq] <;> rfl), (by simp only [sB, Nat.reduceEqDiff, reduceCtorEq] <;> rfl), HX.refl hw⟩
theorem zfq {l : List Tm} {a : Option Addr} {c : Nat} {cells : Nat → List Value} {H : Heap} (rl : RepL H l a c cells) (hw : H.wf) :
  EvF Tryz.prog okT 28 [.slice a l.length c] H fun v H' => v = .int .i64 (chkL l) ∧ HX H H' := by
 have hm := rl.max
 refine EvF.enter rfl Tryz.func28 (by decide) rfl ?_
 repeat' (first | refine ya ?_ | refine yg ?_ | refine yd ?_ | (refine ye ?_) | (refine yf ?_) | (refine yc ?_; try simp only [z01, z00]) | (refine yb ?_; simp (config := { maxSteps := 2000000 }) (disch := first | omega | rfl) only [sA, initTm]))
 refine yk (fun k st => ∃ tm H' i, st = ⟨tm, [], H'⟩ ∧ k = l.length - i ∧ i ≤ l.length ∧ chkL (l.drop i) = chkL l ∧ tm.get 0 = some (.slice a l.length c) ∧ tm.get 3 = some (.int .i64 (i : Nat)) ∧ HX H H') ?_ l.length _ ?_
 ·rintro k st ⟨tm, H', i, rfl, rfl, hi, hc, g6, g8, hx⟩
  by_cases hlt : i < l.length
  ·obtain ⟨b, o, a1, c1, rfl, hld, hr⟩ := rl.el hlt
   have hld1 := hx.load hw hld
   repeat' (first | refine ya ?_ | refine yg ?_ | refine yd ?_ | (refine ye ?_; try simp only [z02]) | (refine yf ?_) | (refine yc ?_; try simp only [z01, z00]) | (refine yb ?_; simp (config := { maxSteps := 2000000 }) (disch := first | omega | rfl) only [sB, Nat.reduceEqDiff, reduceCtorEq, ln23, ia23, ld25, cl48, g6, g8, decl hlt, hld1]) | (refine yh ?_ ?_; simp (config := { maxSteps := 2000000 }) (disch := first | omega | rfl) only [sB, Nat.reduceEqDiff]; refine z03 ?_))
   refine (zb4 _ _ _ (hr.mono hx hw) hx.wf).mono ?_
   rintro v H3 ⟨rfl, hx3⟩
   by_cases h0 : checkS l[i] = 0
   ·repeat' (first | refine ya ?_ | refine yg ?_ | refine yd ?_ | (refine ye ?_; try simp only [sA]) | (refine yf ?_) | (refine yc ?_; try simp only [z01, z00]) | (refine yb ?_; simp (config := { maxSteps := 2000000 }) (disch := first | omega | rfl) only [sB, Nat.reduceEqDiff, g8, z14 h0, z06]) | (refine yh ?_ ?_; simp (config := { maxSteps := 2000000 }) (disch := first | omega | rfl) only [sB, Nat.reduceEqDiff]; refine z03 ?_) | (refine yi ?_ ?_; simp (config := { maxSteps := 2000000 }) (disch := first | omega | rfl) only [sB, Nat.reduceEqDiff]; refine z03 ?_))
    exact ⟨l.length - (i + 1), by omega, _, _, i + 1, rfl, rfl, by omega, by rw [← hc, z5f hlt, if_pos h0], (by simp only [sG, reduceCtorEq, g6] <;> rfl), (by simp only [sB, Nat.reduceEqDiff] <;> rfl), hx.trans hx3⟩
   ·repeat' (first | refine ya ?_ | refine yg ?_ | refine yd ?_ | (refine ye ?_) | (refine yf ?_) | (refine yc ?_; try simp only [z01, z00]) | (refine yb ?_; simp (config := { maxSteps := 2000000 }) (disch := first | omega | rfl) only [sB, Nat.reduceEqDiff, z35 h0]) | (refine yh ?_ ?_; simp (config := { maxSteps := 2000000 }) (disch := first | omega | rfl) only [sB, Nat.reduceEqDiff]; refine z03 ?_))
    exact z04 rfl (by simp only [sB, Nat.reduceEqDiff] <;> rfl) ⟨by rw [← hc, z5f hlt, if_neg h0], hx.trans hx3⟩
  ·repeat' (first | refine ya ?_ | refine yg ?_ | refine yd ?_ | (refine ye ?_) | (refine yf ?_; try simp only [sB]) | (refine yc ?_; try simp only [z01, z00]) | (refine yb ?_; simp (config := { maxSteps := 2000000 }) (disch := first | omega | rfl) only [sB, Nat.reduceEqDiff, reduceCtorEq, ln23, g6, g8, decn hlt]) | (refine yh ?_ ?_; simp (config := { maxSteps := 2000000 }) (disch := first | omega | rfl) only [sB, Nat.reduceEqDiff]; refine z03 ?_) | (refine yi ?_ ?_; simp (config := { maxSteps := 2000000 }) (disch := first | omega | rfl) only [sB, Nat.reduceEqDiff]; refine z03 ?_))
   exact z04 rfl (by simp only [sB, Nat.reduceEqDiff] <;> rfl) ⟨by rw [← hc, List.drop_of_length_le (by omega), chkL], hx⟩
 ·exact ⟨_, _, 0, rfl, rfl, by omega, rfl, (by simp only [sG, reduceCtorEq] <;> rfl), (by simp only [sB, Nat.reduceEqDiff, reduceCtorEq] <;> rfl), HX.refl hw⟩
theorem zk1 {l : List Tm} {a : Option Addr} {c : Nat} {cells : Nat → List Value} {H : Heap} (rl : RepL H l a c cells) (hw : H.wf) :
  EvF Tryz.prog okT 6 [.slice a l.length c] H fun v H' => v = .int .i64 (chkL l) ∧ HX H H' := by
 refine EvF.enter rfl Tryz.func6 (by decide) rfl ?_
 repeat' (first | refine ya ?_ | refine yg ?_ | refine yd ?_ | (refine ye ?_) | (refine yf ?_) | (refine yc ?_; try simp only [z01, z00]) | (refine yb ?_; simp (config := { maxSteps := 2000000 }) (disch := first | omega | rfl) only [sB, initTm, Nat.reduceEqDiff, reduceCtorEq, cl28]))
 refine (zfq rl hw).mono ?_
 rintro v H3 ⟨rfl, hx3⟩
 repeat' (first | refine ya ?_ | refine yg ?_ | refine yd ?_ | (refine ye ?_) | (refine yf ?_) | (refine yc ?_; try simp only [z01, z00]))
 exact z04 rfl (by simp only [sG, Nat.reduceEqDiff, reduceCtorEq] <;> rfl) ⟨rfl, hx3⟩
end Go.Proofs.hq
end

section
namespace Go.Proofs.hq
open Go Go.RowKit Go.Hb
def nd : Tm → Nat
 | .mk _ _ _ _ _ l => 1 + ndL l
where ndL : List Tm → Nat
 | [] => 0
 | t :: l => nd t + ndL l
theorem zi7 (t : Tm) : nd t = 1 + nd.ndL t.args := by obtain ⟨k, s, u, b, v, l⟩ := t; rw [nd]; rfl
theorem z7j : ∀ (l : List Tm), (∀ t ∈ l, ∀ n, n ≤ cnt t n) → ∀ n, n ≤ cntL l n
 | [], _, n => by rw [cntL]; exact Nat.le_refl _
 | t :: l, h, n => by
  rw [cntL]
  split
  ·exact Nat.le_refl _
  ·exact Nat.le_trans (h t (by simp) n) (z7j l (fun u hu => h u (List.mem_cons_of_mem _ hu)) _)
theorem zem : ∀ (m : Nat) (t : Tm), SizeOf.sizeOf t < m → ∀ n, n + 1 ≤ cnt t n
 | 0, _, h, _ => by omega
 | m + 1, t, h, n => by
  rw [z5a]
  exact z7j _ (fun u hu k => by have := zem m u (by have := z18 hu; omega) k; omega) _
theorem zi8 : ∀ (l : List Tm), (∀ t ∈ l, ∀ n, cnt t n ≤ 4000 → cnt t n = n + nd t) → ∀ n, cntL l n ≤ 4000 → cntL l n = n + nd.ndL l
 | [], _, n, _ => by rw [cntL, nd.ndL]; rfl
 | t :: l, h, n, hn => by
  rw [cntL] at hn ⊢
  split at hn
  ·omega
  ·rename_i h4
   rw [if_neg h4]
   have hm : cnt t n ≤ cntL l (cnt t n) := z7j l (fun u _ k => by have := zem _ u (Nat.lt_succ_self _) k; omega) _
   rw [zi8 l (fun u hu => h u (List.mem_cons_of_mem _ hu)) _ hn, h t (by simp) n (by omega), nd.ndL]
   omega
theorem zlc : ∀ (m : Nat) (t : Tm), SizeOf.sizeOf t < m → ∀ n, cnt t n ≤ 4000 → cnt t n = n + nd t
 | 0, _, h, _, _ => by omega
 | m + 1, t, h, n, hn => by
  rw [z5a] at hn ⊢
  rw [zi8 _ (fun u hu k => zlc m u (by have := z18 hu; omega) k) _ hn, zi7]; omega
end Go.Proofs.hq
end

section
namespace Go.Proofs.hq
open Go Go.RowKit Go.Hb
variable {ok : Ok}
set_option maxRecDepth 10000
attribute [local irreducible] LX LG EL STG SOP SGO SGD SAL SRD SEF SEG SLK SCK ES
theorem zld : ∀ (m : Nat) (t : Tm), SizeOf.sizeOf t < m → (occ t).length ≤ nd t
 | 0, _, h => by omega
 | m + 1, t, h => by
  have hl : ∀ l : List Tm, (∀ u ∈ l, (occ u).length ≤ nd u) → (occL l).length ≤ nd.ndL l := by
   intro l
   induction l with
   | nil => intro _; rw [occL, nd.ndL]; exact Nat.le_refl _
   | cons u l ih => intro hu; rw [occL, nd.ndL, List.length_append]; have := hu u (by simp); have := ih fun v hv => hu v (List.mem_cons_of_mem _ hv); omega
  have := hl t.args fun u hu => zld m u (by have := z18 hu; omega)
  rw [z8e, zi7, List.length_append]
  split <;> simp <;> omega
theorem zi9 {t : Tm} (h : checkS t = 0) : (occ t).length ≤ 4000 := by
 have h1 := (z39.1 h).1
 have h2 := zlc _ t (Nat.lt_succ_self _) 0 h1
 have h3 := zld _ t (Nat.lt_succ_self _)
 omega
theorem RepL.one {H : Heap} {t : Tm} {cs : List Value} {b : Nat} {T : TypeId} (r : RepT H t cs) (g : H.get b = some (.row cs T)) : RepL H [t] (some ⟨b, 0, none⟩) 1 (fun _ => cs) := by
 have h1 := r.len
 refine RepL.of_row g (fun i hi => ?_) (fun i u hu => ?_) (Nat.le_refl _) (by simp [maxLen])
 ·match i, hi with
  | 0, _ => simp; exact List.take_of_length_le (by omega)
 ·match i, hu with
  | 0, hu => cases hu; exact r
theorem mapI : mpOk Tryz.prog 74 3 3 (.int .i64 0) := ⟨Tryz.underlying74, Tryz.underlying3, by kernel_rfl, rfl⟩
def VarJ (H0 : Heap) (pm po r : Nat) (S : Nat → Prop) (pre : List Int) (H : Heap) : Prop :=
 HX H0 H ∧ H.get pm = some (.row [.map (some r)] 74) ∧ ∃ v M Sb, H.get po = some (.row [v] 42) ∧ MapR H r M ∧ (∀ n, mGet M n = none ↔ n ∉ uniq pre) ∧ IntL H 3 Sb (uniq pre) v ∧
  (∀ n, S n ↔ (n = r ∨ n = po ∨ Sb n)) ∧ (∀ n, Sb n → n ≠ pm ∧ n ≠ po ∧ n ≠ r ∧ H0.next ≤ n ∧ n < H.next)
set_option maxHeartbeats 4000000 in
theorem zmu {H0 : Heap} {pm po r : Nat} {tot : List Int} (h1 : H0.next ≤ pm) (h2 : H0.next ≤ po) (h3 : H0.next ≤ r) (h12 : pm ≠ po) (h13 : pm ≠ r) (h23 : po ≠ r) (hlen : tot.length ≤ most) :
  Each 44 #[.pointer (some ⟨pm, 0, none⟩), .pointer (some ⟨po, 0, none⟩)] H0 tot (VarJ H0 pm po r) := by
 have ean : apOk Tryz.prog 42 3 1 := ap42
 refine ⟨fun S pre H h => h.1, ?_, ?_, ?_⟩
 ·rintro S pre H ⟨hx, gm, v, M, Sb, go, hm, hk, hi, hS, hSb⟩ n hn
  rcases (hS n).1 hn with rfl | rfl | h
  ·exact hm.lt hx.wf
  ·exact hx.wf _ _ go
  ·exact (hSb n h).2.2.2.2
 ·rintro S pre n H ⟨hx, gm, v, M, Sb, go, hm, hk, hi, hS, hSb⟩ hpre
  have hw := hx.wf
  have lm : H.load ⟨pm, 0, none⟩ 1 = some [.map (some r)] := by unfold Heap.load Heap.cells; simp only [gm]; rfl
  have lo : H.load ⟨po, 0, none⟩ 1 = some [v] := by unfold Heap.load Heap.cells; simp only [go]; rfl
  refine EvF.enter rfl Tryz.func44 (by decide) rfl ?_
  by_cases hn : n ∈ uniq pre
  ·have hg : mGet M n ≠ none := fun h => (hk n).1 h hn
   obtain ⟨u, hu⟩ := Option.ne_none_iff_exists'.1 hg
   repeat' (first | refine ya ?_ | refine yg ?_ | refine yd ?_ | (refine ye ?_) | (refine yf ?_) | (refine yc ?_; try simp only [z01, z00]) | (refine yb ?_; simp (config := { maxSteps := 2000000 }) (disch := first | omega | rfl) only [sB, initTm, Nat.reduceEqDiff, Nat.reduceAdd, reduceCtorEq, ld74, lm, z36, z99 mapI hm hu, Bool.not_true]) | (refine yh ?_ ?_; simp (config := { maxSteps := 2000000 }) (disch := first | omega | rfl) only [sB, Nat.reduceEqDiff, reduceCtorEq]; refine z03 ?_) | (refine yi ?_ ?_; simp (config := { maxSteps := 2000000 }) (disch := first | omega | rfl) only [sB, Nat.reduceEqDiff, reduceCtorEq]; refine z03 ?_))
   refine z0p rfl ⟨S, ⟨hx, gm, v, M, Sb, go, hm, ?_, ?_, hS, hSb⟩, HK.refl hw, fun n h => .inl h⟩
   ·rw [z5c, addU, if_pos hn]; exact hk
   ·rw [z5c, addU, if_pos hn]; exact hi
  ·have hg : mGet M n = none := (hk n).2 hn
   obtain ⟨a, c, rfl, hc1, hc2⟩ := hi.slice
   obtain ⟨B, eu, hm2⟩ := zgq (v := .int .i64 (uniq pre).length) mapI hm hg
   have lr := hm.lt hw
   have h23' : (po = r) = False := eq_false h23
   repeat' (first | refine ya ?_ | refine yg ?_ | refine yd ?_ | (refine ye ?_) | (refine yf ?_) | (refine yc ?_; try simp only [z01, z00]) | (refine yb ?_; simp (config := { maxSteps := 2000000 }) (disch := first | omega | rfl) only [sB, initTm, Nat.reduceEqDiff, Nat.reduceAdd, Value.cells, one, reduceCtorEq, cutC, layC, ld74, ld42, ln42, zl0, lm, lo, z36, z55, ze1 mapI hm hg, eu, Bool.not_false, h23']) | (refine yh ?_ ?_; simp (config := { maxSteps := 2000000 }) (disch := first | omega | rfl) only [sB, Nat.reduceEqDiff, reduceCtorEq]; refine z03 ?_))
   have hk1 : HK S H (H.put r (some B)) := (HK.refl hw).put (.inl ((hS r).2 (.inl rfl))) lr _
   have go1 : (H.put r (some B)).get po = some (.row [.slice a (uniq pre).length c] 42) := by rw [get_put, if_neg h23]; exact go
   have gm1 : (H.put r (some B)).get pm = some (.row [.map (some r)] 74) := by rw [get_put, if_neg h13]; exact gm
   have hi1 : IntL (H.put r (some B)) 3 Sb (uniq pre) (.slice a (uniq pre).length c) := hi.heap (fun n hn _ => by rw [get_put, if_neg (hSb n hn).2.2.1]) hw
   have hn1 : (H.put r (some B)).next = H.next := z1k
   have hx1 : HX H0 (H.put r (some B)) := hx.put h3 lr _
   generalize H.put r (some B) = H1 at *
   obtain ⟨H6, e6, hx6, g6, hn6, hw6⟩ := new1 hk1.wf (.row [.int .i64 n] 3)
   simp only [e6]
   rw [hn1] at g6
   have l6 : H6.load ⟨H.next, 0, none⟩ (1 * 1) = some [.int .i64 n] := by unfold Heap.load Heap.cells; simp only [g6]; rfl
   have hul := zeg pre
   have hpl := hpre.length_le
   rw [List.length_append, List.length_singleton] at hpl
   obtain ⟨H7, v7, e7, hi7, hk7, hn7⟩ := IntL.push (S2 := fun n => n = H6.next) (c1 := 1) ean (hi1.heap (fun n _ hl => hx6.keep n hl) hk1.wf) hw6 l6 (by omega) rfl
   have go7 : H7.get po = some (.row [.slice a (uniq pre).length c] 42) := hk7.get hw6 (hx6.get hk1.wf go1) (fun h => (hSb _ h).2.1 rfl)
   have gm7 : H7.get pm = some (.row [.map (some r)] 74) := hk7.get hw6 (hx6.get hk1.wf gm1) (fun h => (hSb _ h).1 rfl)
   have lpo := hk1.wf _ _ go1
   have lpm := hk1.wf _ _ gm1
   have hm7 : MapR H7 r (M ++ [(n, .int .i64 (uniq pre).length)]) := (hm2.heap (hx6.keep r (by omega))).heap (hk7.keep r (by omega) (fun h => (hSb _ h).2.2.1 rfl))
   obtain ⟨a7, c7, rfl, -⟩ := hi7.slice
   repeat' (first | refine ya ?_ | refine yg ?_ | refine yd ?_ | (refine ye ?_) | (refine yf ?_) | (refine yc ?_; try simp only [z01, z00]) | (refine z0w ?_; simp (config := { maxSteps := 2000000 }) (disch := first | omega | rfl) only [sB, Nat.reduceEqDiff, one, reduceCtorEq, st42, e7, go7]))
   have hS7 : HK S H (H7.put po (some (.row [.slice a7 (uniq pre ++ [n]).length c7] 42))) := ((hk1.trans (hx6.hk S)).step hk7 fun m _ hm => (hS m).2 (.inr (.inr hm))).put (.inl ((hS po).2 (.inr (.inl rfl)))) (hk7.wf _ _ go7) _
   refine z0p rfl ⟨fun m => m = r ∨ m = po ∨ m = H6.next, ⟨hx.then hS7 fun m hm hs => ?_, by rw [get_put, if_neg h12]; exact gm7, .slice a7 (uniq pre ++ [n]).length c7, M ++ [(n, .int .i64 (uniq pre).length)], fun m => m = H6.next, by rw [get_put, if_pos rfl], ?_, ?_, ?_, fun m => Iff.rfl, ?_⟩, hS7, ?_⟩
   ·rcases (hS m).1 hs with rfl | rfl | h
    ·omega
    ·omega
    ·have := hSb m h; omega
   ·exact hm7.heap (by rw [get_put, if_neg (fun h => h23 h.symm)])
   ·intro m
    rw [zak hg, z5c, addU, if_neg hn]
    by_cases hmn : m = n
    ·rw [if_pos hmn]; simp [hmn]
    ·rw [if_neg hmn, hk m]; simp [hmn]
   ·rw [z5c, addU, if_neg hn]
    exact hi7.heap (fun m hm _ => by have hm : m = H6.next := hm; rw [get_put, if_neg (by omega)]) hk7.wf
   ·rintro m rfl
    rw [z1k]
    exact ⟨by omega, by omega, by omega, by have := hx.next; omega, by omega⟩
   ·rintro m (rfl | rfl | rfl)
    ·exact .inl ((hS _).2 (.inl rfl))
    ·exact .inl ((hS _).2 (.inr (.inl rfl)))
    ·exact .inr (by omega)
 ·rintro S pre H H' ⟨hx, gm, v, M, Sb, go, hm, hk, hi, hS, hSb⟩ hx'
  exact ⟨hx.trans hx', hx'.get hx.wf gm, v, M, Sb, hx'.get hx.wf go, hm.heap (hx'.keep _ (hm.lt hx.wf)), hk, hi.heap (fun n _ hl => hx'.keep n hl) hx.wf, hS, fun n hn => by have := hSb n hn; have := hx'.next; exact ⟨by omega, by omega, by omega, by omega, by omega⟩⟩
set_option maxHeartbeats 4000000 in
theorem zbk {l : List Tm} {a : Option Addr} {c : Nat} {cells : Nat → List Value} {H : Heap} (rl : RepL H l a c cells) (hlen : (occL l).length ≤ most) (hw : H.wf) :
  EvF Tryz.prog okT 23 [.slice a l.length c] H fun v H' => IntL H' 3 (Rg H.next H'.next) (uniq (occL l)) v ∧ HX H H' := by
 have hm := rl.max
 refine EvF.enter rfl Tryz.func23 (by decide) rfl ?_
 repeat' (first | refine ya ?_ | refine yg ?_ | refine yd ?_ | (refine ye ?_) | (refine yf ?_) | (refine yc ?_; try simp only [z01, z00]) | (refine yb ?_; simp (config := { maxSteps := 2000000 }) (disch := first | omega | rfl) only [sB, initTm, dAlloc, Nat.reduceEqDiff, one, reduceCtorEq, zr42, zr74, st74, ln23, z74]))
 have E := zmu (H0 := H) (pm := H.next + 1 + 1) (po := H.next) (r := H.next + 1) (tot := occL l) (by omega) (by omega) (by omega) (by omega) (by omega) (by omega) hlen
 refine yk (fun k st => ∃ tm H' i S, st = ⟨tm, [], H'⟩ ∧ k = l.length - i ∧ i ≤ l.length ∧ tm.get 3 = some (.pointer (some ⟨H.next, 0, none⟩)) ∧ tm.get 4 = some (.pointer (some ⟨H.next + 1 + 1, 0, none⟩)) ∧ tm.get 8 = some (.slice a l.length c) ∧ tm.get 9 = some (.int .i64 l.length) ∧ tm.get 10 = some (.int .i64 (i : Nat)) ∧
   VarJ H (H.next + 1 + 1) H.next (H.next + 1) S (occL (l.take i)) H') ?_ l.length _ ?_
 ·rintro k st ⟨tm, H', i, S, rfl, rfl, hi, t3, t4, t8, t9, t10, hj⟩
  have hx' := E.base _ _ _ hj
  by_cases hlt : i < l.length
  ·obtain ⟨b, o, a1, c1, rfl, hld, hr1⟩ := rl.el hlt
   have hld1 := hx'.load hw hld
   repeat' (first | refine ya ?_ | refine yg ?_ | refine yd ?_ | (refine ye ?_; try simp only [z02]) | (refine yf ?_) | (refine yc ?_; try simp only [z01, z00]) | (refine yb ?_; simp (config := { maxSteps := 2000000 }) (disch := first | omega | rfl) only [sB, dAlloc, Nat.reduceEqDiff, Nat.reduceAdd, one, cutC, ia23, ld25, zr25, st25, cl43, t3, t4, t8, t9, t10, decl hlt, hld1, List.map_toArray]) | (refine yh ?_ ?_; simp (config := { maxSteps := 2000000 }) (disch := first | omega | rfl) only [sB]; refine z03 ?_))
   obtain ⟨H4, e4, hx4, g4, hn4, hw4⟩ := z3q hx'.wf (.row zero6 25) (.row (six l[i] a1 c1) 25)
   simp only [e4]
   have htake := z7e hlt
   refine (zmg hw (by kernel_rfl) E _ (Nat.lt_succ_self _) hr1 (E.stay _ _ _ _ hj hx4) (by rw [← htake]; exact zef _ _)).mono ?_
   rintro v H5 ⟨S5, hj5, -⟩
   repeat' (first | refine ya ?_ | refine yg ?_ | refine yd ?_ | (refine ye ?_) | (refine yf ?_) | (refine yc ?_; try simp only [z01, z00]) | (refine yb ?_; simp (config := { maxSteps := 2000000 }) (disch := first | omega | rfl) only [sB, Nat.reduceEqDiff, t10, z06]))
   exact ⟨l.length - (i + 1), by omega, _, _, i + 1, S5, rfl, rfl, by omega, (by simp only [sG, Nat.reduceEqDiff, t3] <;> rfl), (by simp only [sG, Nat.reduceEqDiff, t4] <;> rfl), (by simp only [sG, Nat.reduceEqDiff, t8] <;> rfl), (by simp only [sG, Nat.reduceEqDiff, t9] <;> rfl), (by simp only [sB, Nat.reduceEqDiff] <;> rfl), by rw [htake]; exact hj5⟩
  ·obtain ⟨-, gm, v, M, Sb, go, -, -, hi, -, hSb⟩ := hj
   have lo : H'.load ⟨H.next, 0, none⟩ 1 = some [v] := by unfold Heap.load Heap.cells; simp only [go]; rfl
   rw [List.take_of_length_le (by omega)] at hi
   repeat' (first | refine ya ?_ | refine yg ?_ | refine yd ?_ | (refine ye ?_) | (refine yf ?_; try simp only [sB]) | (refine yc ?_; try simp only [z01, z00]) | (refine yb ?_; simp (config := { maxSteps := 2000000 }) (disch := first | omega | rfl) only [sB, Nat.reduceEqDiff, ld42, t3, t9, t10, decn hlt, lo]) | (refine yh ?_ ?_; simp (config := { maxSteps := 2000000 }) (disch := first | omega | rfl) only [sB]; refine z03 ?_) | (refine yi ?_ ?_; simp (config := { maxSteps := 2000000 }) (disch := first | omega | rfl) only [sB]; refine z03 ?_))
   refine z04 rfl (by simp only [sB, Nat.reduceEqDiff] <;> rfl) ⟨?_, hx'⟩
   rcases hi with h | ⟨b, c', h1, h2, h3, h4, h5⟩
   ·exact .inl h
   ·exact .inr ⟨b, c', h1, h2, h3, h4, by have := hSb _ h5; exact ⟨by omega, by omega⟩⟩
 ·obtain ⟨H1, e1, hx1, g1, n1, w1⟩ := new1 hw (.row [.slice none 0 0] 42)
  obtain ⟨H2, e2, hx2, g2, n2, w2⟩ := new1 w1 (.map [] 0)
  obtain ⟨H3, e3, hx3, g3, n3, w3⟩ := z3q w2 (.row [.map none] 74) (.row [.map (some (H.next + 1))] 74)
  have n2' : H2.next = H.next + 1 + 1 := by omega
  rw [n2'] at e3 g3
  simp only [e1, e2, e3]
  have hx := (hx1.trans hx2).trans hx3
  refine ⟨_, _, 0, fun n => n = H.next + 1 ∨ n = H.next ∨ False, rfl, rfl, by omega, (by simp only [sG, Nat.reduceEqDiff, reduceCtorEq] <;> rfl), (by simp only [sG, Nat.reduceEqDiff, reduceCtorEq] <;> rfl), (by simp only [sG, Nat.reduceEqDiff, reduceCtorEq] <;> rfl), (by simp only [sG, Nat.reduceEqDiff, reduceCtorEq] <;> rfl), (by simp only [sB, Nat.reduceEqDiff, reduceCtorEq] <;> rfl), hx, g3, .slice none 0 0, [], fun _ => False, hx3.get w2 (hx2.get w1 g1), ⟨[], 0, ?_, rfl⟩, fun n => ?_, ?_, fun n => Iff.rfl, fun n h => h.elim⟩
  ·rw [n1] at g2; exact hx3.get w2 g2
  ·rw [List.take_zero, occL]; simp [uniq, mGet]
  ·rw [List.take_zero, occL]; exact .inl ⟨rfl, rfl⟩
end Go.Proofs.hq
end

section
namespace Go.Hb
open Go Go.RowKit
theorem FL.inv {H : Heap} {T : TypeId} {S : Nat → Prop} {l : List Tm} {a : Option Addr} {c : Nat} (h : FL H T S l a c) : (l = [] ∧ a = none ∧ c = 0) ∨ ∃ b cells Si ai ci, a = some ⟨b, 0, none⟩ ∧ l.length ≤ c ∧ c ≤ maxLen ∧
  H.get b = some (.row cells T) ∧ l.length * 6 ≤ cells.length ∧ S b ∧ (∀ i, i < l.length → ¬ Si i b) ∧ FLs H T S l cells Si ai ci := by
 cases h with
 | nil => exact .inl ⟨rfl, rfl, rfl⟩
 | row _ _ b c cells Si ai ci h1 h2 h3 h4 h5 h6 h7 h8 h9 h10 h11 => exact .inr ⟨b, cells, Si, ai, ci, rfl, h1, h2, h3, h4, h7, h8, ⟨h5, h6, h9, h10, h11⟩⟩
end Go.Hb
namespace Go.Proofs.hq
open Go Go.RowKit Go.Hb
variable {ok : Ok}
set_option maxRecDepth 10000
attribute [local irreducible] LX LG EL STG SOP SGO SGD SAL SRD SEF SEG SLK SCK ES
abbrev mark6 (k : Int) (s : ByteArray) : List Value := [.int .i64 k, .string s, .string ByteArray.empty, .int .u64 0, .int .i64 0, .slice none 0 0]
set_option maxHeartbeats 4000000 in
theorem zia {s : ByteArray} {m : Nat} : ∀ {t : Tm} {cs : List Value} {S : Nat → Prop} {H : Heap}, SizeOf.sizeOf t < m → RepF H 25 S t cs → Few 1000000 t → (∀ n, S n → n < H.next) → H.wf →
  EvF Tryz.prog okT 9 [.agg ⟨cs⟩, .string s] H fun _ H' => HK S H H' := by
 induction m with
 | zero => intro t cs S H h; omega
 | succ m ih =>
 intro t cs S H hsz r hfew hS hw
 obtain ⟨a, c, rfl, hbd, hf⟩ := r
 have hlen := hfew.len
 refine EvF.enter rfl Tryz.func9 (by decide) rfl ?_
 (repeat refine ya ?_); refine yb ?_; simp (config := { maxSteps := 2000000 }) (disch := first | omega | rfl) only [sB, initTm, dBox, Value.cells, one, reduceCtorEq]
 obtain ⟨H2, e2, hx2, gp, hn2, hw2⟩ := new1 hw (.row (six t a c) 25)
 simp only [e2]
 clear e2
 (repeat refine ya ?_); refine yb ?_; simp (config := { maxSteps := 2000000 }) (disch := first | omega | rfl) only [sA]
 have ean : apOk Tryz.prog 23 25 6 := ap23
 rcases hf.inv with ⟨he, rfl, rfl⟩ | ⟨b, cells, Si, ai, ci, rfl, hlc, hcm, gb, hcl, hSb, hnb, hfs⟩
 ·have he0 : t.args.length = 0 := by rw [he]; rfl
  have q1 := row6 gp
  refine yd (EvC.loop1 ?_)
  have hd : ¬ (0 : Nat) < t.args.length := by omega
  have hd' : decide ((0 : Int) < (t.args.length : Int)) = false := decide_eq_false (by omega)
  repeat' (first | refine ya ?_ | refine yg ?_ | refine yd ?_ | (refine ye ?_) | (refine yf ?_; try simp only [sB]) | (refine yc ?_; try simp only [z01, z00]) | (refine yb ?_; simp (config := { maxSteps := 2000000 }) (disch := first | omega | rfl) only [sB, Nat.reduceEqDiff, Nat.reduceAdd, Value.cells, one, reduceCtorEq, Nat.reduceLeDiff, layC, z0t, ld23, ln23, bd25, ze2, q1, hd']) | (refine yh ?_ ?_; simp (config := { maxSteps := 2000000 }) (disch := first | omega | rfl) only [sB, Nat.reduceEqDiff, reduceCtorEq]; refine z03 ?_) | (refine yi ?_ ?_; simp (config := { maxSteps := 2000000 }) (disch := first | omega | rfl) only [sB, Nat.reduceEqDiff, reduceCtorEq]; refine z03 ?_))
  obtain ⟨H6, e6, hx6, g6, hn6, hw6⟩ := new1 hw2 (.row (mark6 0 s ++ mark6 0 s) 25)
  have e6' := e6
  simp only [mark6, List.cons_append, List.nil_append] at e6'
  simp only [e6']
  have l6 : H6.load ⟨H2.next, 0, none⟩ (2 * 6) = some (mark6 0 s ++ mark6 0 s) := by unfold Heap.load Heap.cells; simp only [g6]; rfl
  have e7 : dAp Tryz.prog #[23, 23] (.slice none t.args.length 0) (.slice (some ⟨H2.next, 0, none⟩) 2 2) H6 = some (.val (.slice (some ⟨H6.next, 0, none⟩) 2 2) (H6.new (some (.row (mark6 0 s ++ mark6 0 s) 25)))) := by
   rw [he0]; exact z5j ean (by omega) (by simp [most]) l6 rfl
  obtain ⟨H7, e8, hx7, g7, hn7, hw7⟩ := new1 hw6 (.row (mark6 0 s ++ mark6 0 s) 25)
  have gp7 := hx7.get hw6 (hx6.get hw2 gp)
  rw [e8] at e7
  repeat' (first | refine ya ?_ | refine yg ?_ | refine yd ?_ | (refine ye ?_) | (refine yf ?_) | (refine yc ?_; try simp only [z01, z00]) | (refine z0w ?_; simp (config := { maxSteps := 2000000 }) (disch := first | omega | rfl) only [sB, Nat.reduceEqDiff, Nat.reduceAdd, one, reduceCtorEq, z0t, st23, e7, gp7]))
  exact z0p rfl (((hx2.trans hx6).trans hx7).pt (Nat.le_refl _) gp7 _ |>.hk S)
 ·refine EvC.meet (fun st => ∃ tm H' cells', st = ⟨tm, [], H'⟩ ∧ tm.get 1 = some (.string s) ∧ tm.get 2 = some (.pointer (some ⟨H.next, 0, none⟩)) ∧ H'.get H.next = some (.row (six t (some ⟨b, 0, none⟩) c) 25) ∧
   H'.get b = some (.row cells' 25) ∧ t.args.length * 6 ≤ cells'.length ∧ (∀ j, j < t.args.length → ((cells'.drop (j * 6)).take 6).all one = true) ∧ HK S H H') ?_ ?_
  ·refine yd (yk (fun k st => ∃ tm H' i cells', st = ⟨tm, [], H'⟩ ∧ k = t.args.length - i ∧ i ≤ t.args.length ∧ tm.get 1 = some (.string s) ∧ tm.get 2 = some (.pointer (some ⟨H.next, 0, none⟩)) ∧ tm.get 4 = some (.int .i64 (i : Nat)) ∧
    H'.get H.next = some (.row (six t (some ⟨b, 0, none⟩) c) 25) ∧ H'.get b = some (.row cells' 25) ∧ t.args.length * 6 ≤ cells'.length ∧ (∀ j, j < t.args.length → ((cells'.drop (j * 6)).take 6).all one = true) ∧
    (∀ j, i ≤ j → j < t.args.length → (cells'.drop (j * 6)).take 6 = (cells.drop (j * 6)).take 6) ∧ (∀ j n, i ≤ j → j < t.args.length → Si j n → H'.get n = H.get n) ∧ HK S H H') ?_ t.args.length _ ?_)
   ·rintro k st ⟨tm, H', i, cells', rfl, rfl, hi, t1, t2, t4, gp', gb', hcl', hone, hsame, hkeep, hk'⟩
    have q1 := row6 gp'
    have hmx : t.args.length ≤ 9223372036854775807 := by omega
    by_cases hlt : i < t.args.length
    ·have hu := List.getElem?_eq_getElem hlt
     have hld : H'.load ⟨b, i * 6, none⟩ 6 = some (six t.args[i] (ai i) (ci i)) := by
      unfold Heap.load Heap.cells
      simp only [gb', hsame i (Nat.le_refl _) hlt, hfs.el i _ hu]
      rfl
     have hle : i * 6 + 6 ≤ cells'.length := by have := mul6 hlt; omega
     repeat' (first | refine ya ?_ | refine yg ?_ | refine yd ?_ | (refine ye ?_; try simp only [z02]) | (refine yf ?_) | (refine yc ?_; try simp only [z01, z00]) | (refine yb ?_; simp (config := { maxSteps := 2000000 }) (disch := first | omega | rfl) only [sB, Nat.reduceEqDiff, z0t, ld23, ln23, ia23, ld25, cl9, t1, t2, t4, q1, decl hlt, hld]) | (refine yh ?_ ?_; simp (config := { maxSteps := 2000000 }) (disch := first | omega | rfl) only [sB, Nat.reduceEqDiff]; refine z03 ?_))
     have hs := z15 hu
     have hfi := (hfs.fl i _ hu).heap (H' := H') (fun n hn _ => hkeep i n (Nat.le_refl _) hlt hn) hw
     have hSn : ∀ n, S n → n < H'.next := fun n hn => Nat.lt_of_lt_of_le (hS n hn) hk'.next
     refine (ih (t := t.args[i]) (by omega) ⟨ai i, ci i, rfl, hfs.bd i _ hu, hfi⟩ (hfew.args _ (List.getElem_mem _)) (fun n hn => hSn n (hfs.sub i n hlt hn)) hk'.wf).mono ?_
     rintro v H5 hk5
     have gp5 := hk5.get hk'.wf gp' (fun hq => by have := hS _ (hfs.sub i _ hlt hq); omega)
     have gb5 := hk5.get hk'.wf gb' (fun hq => hnb i hlt hq)
     have q2 := row6 gp5
     repeat' (first | refine ya ?_ | refine yg ?_ | refine yd ?_ | (refine ye ?_) | (refine yf ?_) | (refine yc ?_; try simp only [z01, z00]) | (refine yb ?_; simp (config := { maxSteps := 2000000 }) (disch := first | omega | rfl) only [sB, Nat.reduceEqDiff, Nat.reduceAdd, Value.cells, one, Nat.reduceLeDiff, layC, z0t, ld23, ia23, bd25, st25, t1, t2, t4, q2, gb5, hle, z06]))
     have hmk : (mark6 2 s).length = 6 := rfl
     refine ⟨t.args.length - (i + 1), by omega, _, _, i + 1, Hb.splice cells' (i * 6) (mark6 2 s), rfl, rfl, by omega, (by simp only [sG, Nat.reduceEqDiff, t1] <;> rfl), (by simp only [sG, Nat.reduceEqDiff, t2] <;> rfl), (by simp only [sB, Nat.reduceEqDiff] <;> rfl), by rw [get_put, if_neg (fun e => by have := hS b hSb; omega)]; exact gp5, by rw [get_put, if_pos rfl], by rw [z0c (by rw [hmk]; exact hle)]; exact hcl',
      fun j hj => ?_, fun j hij hj => ?_, fun j n hij hj hn => ?_, ?_⟩
     ·by_cases hji : j = i
      ·subst hji; rw [z3m hle rfl]; rfl
      ·rw [z2d hle rfl (by rcases Nat.lt_or_gt_of_ne hji with h | h; exact .inl (mul6 h); exact .inr (mul6 h))]; exact hone j hj
     ·rw [z2d hle rfl (.inr (mul6 (by omega)))]; exact hsame j (by omega) hj
     ·have hnb' : n ≠ b := fun e => hnb j hj (e ▸ hn)
      rw [get_put, if_neg hnb', hk5.keep n (hSn n (hfs.sub j n hj hn)) (fun hq => by have := hfs.one i j n hlt hj hq hn; omega)]; exact hkeep j n (by omega) hj hn
     ·exact (hk'.trans (hk5.sub fun n _ hn => hfs.sub i n hlt hn)).put (.inl hSb) (hk5.wf _ _ gb5) _
    ·repeat' (first | refine ya ?_ | refine yg ?_ | refine yd ?_ | (refine ye ?_) | (refine yf ?_; try simp only [sB, reduceCtorEq]) | (refine yc ?_; try simp only [z01, z00]) | (refine yb ?_; simp (config := { maxSteps := 2000000 }) (disch := first | omega | rfl) only [sB, Nat.reduceEqDiff, z0t, ld23, ln23, t2, t4, q1, decn hlt]) | (refine yh ?_ ?_; simp (config := { maxSteps := 2000000 }) (disch := first | omega | rfl) only [sB, Nat.reduceEqDiff]; refine z03 ?_) | (refine yi ?_ ?_; simp (config := { maxSteps := 2000000 }) (disch := first | omega | rfl) only [sB, Nat.reduceEqDiff]; refine z03 ?_))
     exact ⟨_, _, cells', rfl, (by simp only [sG, Nat.reduceEqDiff, t1] <;> rfl), (by simp only [sG, Nat.reduceEqDiff, t2] <;> rfl), gp', gb', hcl', hone, hk'⟩
   ·exact ⟨_, _, 0, cells, rfl, rfl, by omega, (by simp only [sG, Nat.reduceEqDiff, reduceCtorEq] <;> rfl), (by simp only [sG, Nat.reduceEqDiff, reduceCtorEq] <;> rfl), (by simp only [sB, Nat.reduceEqDiff, reduceCtorEq] <;> rfl), gp, hx2.get hw gb, hcl, fun j hj => by rw [hfs.el j _ (List.getElem?_eq_getElem hj)]; exact six_ones, fun _ _ _ => rfl, fun j n _ hj hn => hx2.keep n (hS n (hfs.sub j n hj hn)), hx2.hk S⟩
  ·rintro st ⟨tm, H', cells', rfl, t1, t2, gp', gb', hcl', hone, hk'⟩
   have q1 := row6 gp'
   repeat' (first | refine ya ?_ | refine yg ?_ | refine yd ?_ | (refine ye ?_) | (refine yf ?_) | (refine yc ?_; try simp only [z01, z00]) | (refine yb ?_; simp (config := { maxSteps := 2000000 }) (disch := first | omega | rfl) only [sB, Nat.reduceEqDiff, Nat.reduceAdd, Value.cells, one, Nat.reduceLeDiff, layC, z0t, ld23, bd25, ze2, t1, t2, q1]))
   obtain ⟨H6, e6, hx6, g6, hn6, hw6⟩ := new1 hk'.wf (.row (mark6 0 s ++ mark6 0 s) 25)
   have e6' := e6
   simp only [mark6, List.cons_append, List.nil_append] at e6'
   simp only [e6']
   have l6 : H6.load ⟨H'.next, 0, none⟩ (2 * 6) = some (mark6 0 s ++ mark6 0 s) := by unfold Heap.load Heap.cells; simp only [g6]; rfl
   have gb6 := hx6.get hk'.wf gb'
   have e7 : dAp Tryz.prog #[23, 23] (.slice (some ⟨b, 0, none⟩) t.args.length c) (.slice (some ⟨H'.next, 0, none⟩) 2 2) H6 = _ :=
    z4m ean (by omega) (by unfold most; omega) l6 rfl gb6 hcl' (z4q _ hcl' hone)
   have hb6 : H.next ≠ b := fun e => by have := hS b hSb; omega
   have gp6 := hx6.get hk'.wf gp'
   have hk8 : HK S H ((H6.put b none).new (some (.row (cells'.take (t.args.length * 6) ++ (mark6 0 s ++ mark6 0 s)) 25))) := ((hk'.trans (hx6.hk S)).put (.inl hSb) (hw6 _ _ gb6) none).new _
   obtain ⟨H8, e8⟩ : ∃ H8, (H6.put b none).new (some (.row (cells'.take (t.args.length * 6) ++ (mark6 0 s ++ mark6 0 s)) 25)) = H8 := ⟨_, rfl⟩
   have gp8 : H8.get H.next = some (.row (six t (some ⟨b, 0, none⟩) c) 25) := by
    rw [← e8, z13 (by rw [z1k]; exact hw6 _ _ gp6), z34 hb6]; exact gp6
   rw [e8] at e7 hk8
   repeat' (first | refine ya ?_ | refine yg ?_ | refine yd ?_ | (refine ye ?_) | (refine yf ?_) | (refine yc ?_; try simp only [z01, z00]) | (refine z0w ?_; simp (config := { maxSteps := 2000000 }) (disch := first | omega | rfl) only [sB, Nat.reduceEqDiff, Nat.reduceAdd, one, z0t, st23, t2, e7, gp8]))
   exact z0p rfl (hk8.put (.inr (Nat.le_refl _)) (hk8.wf _ _ gp8) _)
end Go.Proofs.hq
end

section
namespace Go.Hb
open Go Go.RowKit
def ApV (S : Nat → Prop) (H0 H : Heap) (T : TypeId) (v : Value) (n : Nat) : Prop :=
 (n = 0 ∧ v = .slice none 0 0) ∨ ∃ b cells c, v = .slice (some ⟨b, 0, none⟩) n c ∧ H.get b = some (.row cells T) ∧ n * 6 ≤ cells.length ∧ (cells.take (n * 6)).all one = true ∧ (S b ∨ H0.next ≤ b)
theorem ApV.push {P : Program} {T t : TypeId} (hp : apOk P t T 6) {S : Nat → Prop} {H0 H : Heap} {v : Value} {n c1 : Nat} {ad : Addr} {cs : List Value} (h : ApV S H0 H T v n) (hk : HK S H0 H) (hl : H.load ad (1 * 6) = some cs) (hc : cs.all one = true) (hlc : cs.length = 6) (hm : n + 1 ≤ most) :
  ∃ H2 v2, dAp P #[t, t] v (.slice (some ad) 1 c1) H = some (.val v2 H2) ∧ ApV S H0 H2 T v2 (n + 1) ∧ HK S H0 H2 := by
 rcases h with ⟨rfl, rfl⟩ | ⟨b, cells, c, rfl, hg, hn, ho, hb⟩
 ·refine ⟨_, _, z5j hp (by omega) hm hl hc, .inr ⟨H.next, cs, 1, rfl, z0o, by omega, ?_, .inr hk.next⟩, hk.new _⟩
  rw [List.take_of_length_le (by omega)]; exact hc
 ·refine ⟨_, _, z4m hp (by omega) hm hl hc hg hn ho, .inr ⟨H.next, _, _, rfl, z0o, ?_, ?_, .inr hk.next⟩, (hk.put hb (hk.wf _ _ hg) none).new _⟩
  ·simp; omega
  ·rw [List.take_of_length_le (by simp; omega), List.all_append, ho, hc]; rfl
end Go.Hb
namespace Go.Proofs.hq
open Go Go.RowKit Go.Hb
variable {ok : Ok}
set_option maxRecDepth 10000
attribute [local irreducible] LX LG EL STG SOP SGO SGD SAL SRD SEF SEG SLK SCK ES
noncomputable def eqL (l l' : List Tm) : Bool := @decide (l = l') (Classical.propDecidable _)
end Go.Proofs.hq
end

section
namespace Go.Hb
open Go Go.RowKit
section
variable {P : Program} {ok : Ok} {x : Ctx}
theorem EvR.go {l : Nat} {args : List Value} {H : Heap} {K : Value → Heap → Prop} {fn : FuncId} {tm : Tr Value} {ps : List Tmp} {aa bo : Code} {dd : Nat} (hg : H.get l = some (.loop .ready none fn tm ps aa bo dd)) (hl : args.length = ps.length)
  (h : EvC P ok ⟨fn, some l⟩ aa ⟨(ps.zip args).foldl (fun t p => t.put p.1 (some p.2)) tm, [], H⟩ fun e st1 => e = .normal ∧ st1.H.get l = some (.loop .ready none fn tm ps aa bo dd) ∧
   EvC P ok ⟨fn, some l⟩ bo ⟨st1.tm, st1.ds, st1.H.put l (some (.loop .busy none fn tm ps aa bo dd))⟩ fun e st2 => e = .normal ∧ st2.H.get l = some (.loop .busy none fn tm ps aa bo dd) ∧
    K (.bool true) (st2.H.put l (some (.loop .ready none fn tm ps aa bo dd)))) : EvR P ok l args H K := by
 obtain ⟨N, ⟨e, st1⟩, h1, he, hg1, N2, ⟨e2, st2⟩, h2, he2, hg2, hk⟩ := h
 simp only at he he2
 subst he he2
 refine ⟨max N N2 + 1, (.bool true, st2.H.put l (some (.loop .ready none fn tm ps aa bo dd))), fun n hn => ?_, hk⟩
 obtain ⟨m, rfl⟩ : ∃ m, n = m + 1 := ⟨n - 1, by omega⟩
 have c1 := h1 m (by omega)
 have c2 := h2 m (by omega)
 have hb : Nat.beq args.length ps.length = true := by rw [Nat.beq_eq]; exact hl
 simp only at hg1 hg2 c2
 show dround P ok (m + 1) l args H = _
 rw [dround]
 simp only [hg, hb, if_true, c1, hg1, c2, dendRound, hg2]
theorem EvR.mono {l : Nat} {args : List Value} {H : Heap} {K L : Value → Heap → Prop} (h : EvR P ok l args H K) (k : ∀ v H', K v H' → L v H') : EvR P ok l args H L := Upon.mono h fun _ hq => k _ _ hq
end
end Go.Hb
end

section
namespace Go.Proofs.hq
open Go Go.RowKit Go.Hb
variable {ok : Ok}
set_option maxRecDepth 10000
attribute [local irreducible] LX LG EL STG SOP SGO SGD SAL SRD SEF SEG SLK SCK ES
abbrev dot : ByteArray := ⟨#[46]⟩
def zeroT : Tm := .mk 0 ByteArray.empty ByteArray.empty 0 0 []
def listed (l : List Tm) (e : Tm) : Tm := l.foldr (fun t u => .mk 5 dot ByteArray.empty 0 0 [t, u]) e
def totN : List Tm → Nat → Nat
 | [], n => n
 | t :: l, n => if 4000 < n then n else totN l (n + (1 + cnt t 0))
def listE (l : List Tm) (e : Tm) : Int := if orZ (chkL l) (checkS e) = 0 then (if 4000 < totN l (cnt e 0) then 24 else 0) else orZ (chkL l) (checkS e)
def listT (l : List Tm) (e : Tm) : Tm := if listE l e = 0 then listed l e else zeroT
theorem zib {M M' : List (Int × Tm)} {n : Int} {u : Tm} (h : M <+: M') (hl : lookT M n = some u) : lookT M' n = some u := by
 obtain ⟨X, rfl⟩ := h
 unfold lookT at *
 rw [List.find?_append]
 cases hf : M.find? (fun p => p.1 == n) with
 | none => rw [hf] at hl; cases hl
 | some p => rw [hf] at hl; simpa using hl
theorem zcx {t : Tm} (h : Fine t) (k : t.kind = 1) : occ t = [t.var] := by
 rw [z8e, if_pos k, zhl h k, occL, List.append_nil]
theorem zic {t : Tm} (k : t.kind ≠ 1) : occ t = occL t.args := by rw [z8e, if_neg k, List.nil_append]
theorem zbl : ∀ (m : Nat) {t u : Tm} {M M' : List (Int × Tm)}, SizeOf.sizeOf t < m → Fine t → matchS t u M = some M' → M <+: M' ∧ ∀ n ∈ occ t, lookT M' n ≠ none
 | 0, t, u, M, M', h, _, _ => by omega
 | m + 1, t, u, M, M', h, f, hm => by
  by_cases k : t.kind = 1
  ·rw [z1u k] at hm
   rw [zcx f k]
   cases hl : lookT M t.var with
   | some old =>
    rw [hl] at hm
    simp only at hm
    split at hm
    ·cases hm
     exact ⟨List.prefix_refl _, fun n hn => by rw [List.mem_singleton] at hn; subst hn; rw [hl]; exact fun q => by cases q⟩
    ·cases hm
   | none =>
    rw [hl] at hm
    cases hm
    refine ⟨List.prefix_append _ _, fun n hn => ?_⟩
    rw [List.mem_singleton] at hn
    subst hn; rw [z48 hl, if_pos rfl]; exact fun q => by cases q
  ·by_cases hal : alike t u
   ·rw [z4b k hal] at hm
    rw [zic k]
    have go : ∀ (l mm : List Tm) (M M' : List (Int × Tm)), (∀ u ∈ l, SizeOf.sizeOf u < m ∧ Fine u) → matchL l mm M = some M' → M <+: M' ∧ ∀ n ∈ occL l, lookT M' n ≠ none := by
     intro l
     induction l with
     | nil => intro mm M M' _ h; rw [matchL] at h; cases h; exact ⟨List.prefix_refl _, fun n hn => by rw [occL] at hn; cases hn⟩
     | cons x l ih =>
      intro mm M M' hl h
      rw [matchL] at h
      cases e1 : matchS x (mm.headD x) M with
      | none => rw [e1] at h; cases h
      | some M1 =>
       rw [e1] at h
       obtain ⟨p1, o1⟩ := zbl m (hl x (by simp)).1 (hl x (by simp)).2 e1
       obtain ⟨p2, o2⟩ := ih _ M1 M' (fun u hu => hl u (List.mem_cons_of_mem _ hu)) h
       refine ⟨p1.trans p2, fun n hn => ?_⟩
       rw [occL] at hn
       rcases List.mem_append.1 hn with hn | hn
       ·cases hq : lookT M1 n with
        | none => exact absurd hq (o1 n hn)
        | some w => rw [zib p2 hq]; exact fun q => by cases q
       ·exact o2 n hn
    exact go t.args u.args M M' (fun u hu => ⟨by have := z18 hu; omega, f.args u hu⟩) hm
   ·rw [z1a k hal] at hm; cases hm
end Go.Proofs.hq
end

section
namespace Go.Hb
open Go Go.RowKit
def BdV (H : Heap) (T : TypeId) (base : Nat) (v : Value) (L : List Bnd) : Prop :=
 (L = [] ∧ v = .slice none 0 0) ∨ ∃ b c, v = .slice (some ⟨b, 0, none⟩) L.length c ∧ L.length ≤ c ∧ c ≤ maxLen ∧ H.get b = some (.row (L.map Bnd.seven).flatten T) ∧ base ≤ b ∧ ∀ d ∈ L, ∀ n, d.e.S n → n < b
theorem z8m (L : List Bnd) : ((L.map Bnd.seven).flatten).length = L.length * 7 := by
 rw [z2r (s := 7) _ (fun x hx => by obtain ⟨d, -, rfl⟩ := List.mem_map.1 hx; rfl), List.length_map]
theorem zid (L : List Bnd) : ((L.map Bnd.seven).flatten).all one = true := by
 rw [List.all_eq_true]
 intro z hz
 obtain ⟨l, hl1, hl2⟩ := List.mem_flatten.1 hz
 obtain ⟨d, -, rfl⟩ := List.mem_map.1 hl1
 exact List.all_eq_true.1 (Bnd.seven_ones d) z hl2
theorem BdV.push {P : Program} {T t : TypeId} (hp : apOk P t T 7) {H : Heap} {base : Nat} {v : Value} {L : List Bnd} {x : Bnd} (h : BdV H T base v L) (hw : H.wf) (hm : L.length + 1 ≤ most) (hb : base ≤ H.next) (hS : ∀ d ∈ L ++ [x], ∀ n, d.e.S n → n < H.next) {lo : Nat} (hlo : ∀ b c, v = .slice (some ⟨b, 0, none⟩) L.length c → b < lo) (hxl : ∀ n, x.e.S n → lo ≤ n) :
  ∃ H2 v2, dAp P #[t, t] v (.slice (some ⟨H.next, 0, none⟩) 1 1) (H.new (some (.row x.seven T))) = some (.val v2 H2) ∧ BdV H2 T base v2 (L ++ [x]) ∧ HK (fun n => base ≤ n) H H2 ∧ ∀ d ∈ L ++ [x], ∀ n, d.e.S n → H2.get n = H.get n := by
 have hmax : L.length + 1 ≤ maxLen := Nat.le_trans hm (by simp [most, maxLen])
 have hl : (H.new (some (.row x.seven T))).load ⟨H.next, 0, none⟩ (1 * 7) = some x.seven := by rw [z2a, Nat.one_mul]; rfl
 have hx1 := (HX.refl hw).new (some (.row x.seven T))
 rcases h with ⟨rfl, rfl⟩ | ⟨b, c, rfl, hlc, hcm, hg, hbb, hSb⟩
 ·refine ⟨_, _, z5j hp (by omega) (by simp [most]) hl (Bnd.seven_ones x), .inr ⟨H.next + 1, 1, rfl, by simp, by simp [maxLen], ?_, by omega, fun d hd n hn => ?_⟩, ((hx1.new _).hk _), fun d hd n hn => by have := hS d hd n hn; rw [z13 (Nat.lt_succ_of_lt this), z13 this]⟩
  ·have : ((H.new (some (.row x.seven T))).new (some (.row x.seven T))).get (H.next + 1) = some (.row x.seven T) := z0o
   simpa using this
  ·have := hS d hd n hn; omega
 ·have hbn := hw _ _ hg
  have hg1 : (H.new (some (.row x.seven T))).get b = some (.row (L.map Bnd.seven).flatten T) := by rw [z13 hbn]; exact hg
  have hfl := z8m L
  refine ⟨_, _, z4m hp (by omega) hm hl (Bnd.seven_ones x) hg1 (by omega) (by rw [List.take_of_length_le (by omega)]; exact zid L), .inr ⟨H.next + 1, L.length + 1, by simp; rfl, by simp, hmax, ?_, by omega, fun d hd n hn => ?_⟩, ?_, fun d hd n hn => ?_⟩
  ·have : ((Heap.put (H.new (some (.row x.seven T))) b none).new (some (.row ((L.map Bnd.seven).flatten.take (L.length * 7) ++ x.seven) T))).get (H.next + 1) = some (.row ((L.map Bnd.seven).flatten.take (L.length * 7) ++ x.seven) T) := z0o
   rw [List.take_of_length_le (by omega)] at this ⊢
   simpa using this
  ·have := hS d hd n hn; omega
  ·exact ((hx1.hk (fun n => base ≤ n)).put (.inl hbb) (Nat.lt_succ_of_lt hbn) none).new _
  ·have h2 := hS d hd n hn
   have h1 : n ≠ b := by
    rcases List.mem_append.1 hd with h | h
    ·have := hSb d h n hn; omega
    ·rw [List.mem_singleton] at h
     subst h
     have := hxl n hn
     have := hlo b c rfl
     omega
   rw [z13 (by rw [z1k]; exact Nat.lt_succ_of_lt (by omega)), z34 h1, z13 (by omega)]
theorem BdV.heap {H H' : Heap} {T : TypeId} {base : Nat} {v : Value} {L : List Bnd} (h : BdV H T base v L) (hx : HX H H') (hw : H.wf) : BdV H' T base v L := by
 rcases h with h | ⟨b, c, h1, h2, h3, h4, h5⟩
 ·exact .inl h
 ·exact .inr ⟨b, c, h1, h2, h3, hx.get hw h4, h5⟩
end Go.Hb
namespace Go.Proofs.hq
open Go Go.RowKit Go.Hb
variable {ok : Ok}
set_option maxRecDepth 10000
attribute [local irreducible] LX LG EL STG SOP SGO SGD SAL SRD SEF SEG SLK SCK ES
theorem Pm.sig {α : Type} {a b : Nat} {D E : Nat → α} (h : Pm a b D E) : ∃ s t : Nat → Nat, (∀ k, t (s k) = k) ∧ (∀ k, s (t k) = k) ∧ (∀ k, a ≤ k → k < b → a ≤ s k ∧ s k < b) ∧ (∀ k, a ≤ k → k < b → a ≤ t k ∧ t k < b) ∧ ∀ k, E k = D (s k) := by
 obtain ⟨s, t, h1, h2, h3, h4⟩ := h
 refine ⟨s, t, h1, h2, fun k k1 k2 => ?_, fun k k1 k2 => ?_, h4⟩
 ·by_cases hc : a ≤ s k ∧ s k < b
  ·exact hc
  ·have e := h3 (s k) (by omega)
   have e2 := h1 (s k)
   rw [e, h1 k] at e2
   omega
 ·by_cases hc : a ≤ t k ∧ t k < b
  ·exact hc
  ·have e := h3 (t k) (by omega)
   rw [h2 k] at e
   omega
structure Told (t u : Tm) (L : List (Int × Tm)) : Prop where
 ex : ∃ M, matchS t u [] = some M ∧ FineB M ∧ ∀ p, p ∈ L ↔ p.1 ∈ occ t ∧ lookT M p.1 = some p.2
 srt : L.Pairwise fun p q => p.1 < q.1
def BsF (H : Heap) (S : Nat → Prop) (n : Nat) (a : Option Addr) (c : Nat) (D : Nat → Bnd) : Prop :=
 (n = 0 ∧ a = none ∧ c = 0) ∨ ∃ b, a = some ⟨b, 0, none⟩ ∧ n ≤ c ∧ c ≤ maxLen ∧ RowB H 37 b n D ∧ S b ∧
  (∀ k, k < n → Bd (D k).e.t ∧ FL H 25 (D k).e.S (D k).e.t.args (D k).e.a (D k).e.c ∧ ∀ x, (D k).e.S x → S x ∧ x ≠ b) ∧ (∀ j k x, j < n → k < n → (D j).e.S x → (D k).e.S x → j = k)
abbrev pairB (d : Bnd) : Int × Tm := (d.v, d.e.t)
def bnd0 : Bnd := ⟨0, ⟨zeroT, none, 0, fun _ => False⟩⟩
def atB (L : List Bnd) (k : Nat) : Bnd := (L[k]?).getD bnd0
theorem zbm {L : List Bnd} {k : Nat} (h : k < L.length) : atB L k = L[k] := by unfold atB; rw [List.getElem?_eq_getElem h]; rfl
theorem RowB.flat {H : Heap} {T : TypeId} {b : Nat} {L : List Bnd} (hg : H.get b = some (.row (L.map Bnd.seven).flatten T)) : RowB H T b L.length (atB L) :=
 ⟨_, hg, by rw [z8m]; exact Nat.le_refl _, fun k hk => by
  rw [zbm hk]
  exact z97 (s := 7) _ _ _ (fun x hx => by obtain ⟨d, -, rfl⟩ := List.mem_map.1 hx; rfl) (by rw [List.getElem?_map, List.getElem?_eq_getElem hk]; rfl)⟩
theorem z9j (l : List Int) (n : Int) : n ∈ uniq l ↔ n ∈ l := by
 have h : ∀ (l L : List Int), n ∈ l.foldl addU L ↔ n ∈ L ∨ n ∈ l := by
  intro l
  induction l with
  | nil => intro L; simp
  | cons m l ih =>
   intro L
   rw [List.foldl_cons, ih]
   have : n ∈ addU L m ↔ n ∈ L ∨ n = m := by
    unfold addU
    split
    ·rename_i hm
     exact ⟨.inl, fun h => by rcases h with h | h; exact h; rw [h]; exact hm⟩
    ·simp
   rw [this, List.mem_cons, or_assoc]
 have := h l []
 simpa [uniq] using this
theorem zie {t u : Tm} {M : List (Int × Tm)} {n : Nat} {BL : List Bnd} {D' : Nat → Bnd} (hM : matchS t u [] = some M) (hf : FineB M) (hdom : ∀ k ∈ occ t, lookT M k ≠ none) (hn : BL.length = n) (hb : BL.map pairB = (uniq (occ t)).map fun k => (k, (lookT M k).getD zeroT)) (hp : Pm 0 n (atB BL) D') (hz : InZ Bnd.v 0 n D') :
  Told t u ((rowF n D').map pairB) := by
 obtain ⟨s, r, h1, h2, h3, h4, h5⟩ := Pm.sig hp
 have hlen : (uniq (occ t)).length = n := by have := congrArg List.length hb; simp at this; omega
 have hat : ∀ (k : Nat) (hk : k < n), pairB (atB BL k) = ((uniq (occ t))[k]'(by omega), (lookT M ((uniq (occ t))[k]'(by omega))).getD zeroT) := fun k hk => by
  rw [zbm (by omega)]
  have := congrArg (fun l => l[k]?) hb
  simp only [List.getElem?_map] at this
  rw [List.getElem?_eq_getElem (by omega), List.getElem?_eq_getElem (by omega)] at this
  simpa using this
 have hnd := zfi (occ t)
 refine ⟨⟨M, hM, hf, fun p => ?_⟩, ?_⟩
 ·constructor
  ·intro hp
   obtain ⟨d, hd, rfl⟩ := List.mem_map.1 hp
   obtain ⟨k, hk, rfl⟩ := List.mem_map.1 hd
   have hk := List.mem_range.1 hk
   rw [h5 k]
   have hs := (h3 k (Nat.zero_le _) hk).2
   have e := hat _ hs
   have hm : (uniq (occ t))[s k]'(by omega) ∈ occ t := (z9j _ _).1 (List.getElem_mem _)
   rw [e]
   refine ⟨hm, ?_⟩
   show lookT M _ = some ((lookT M _).getD zeroT)
   cases hq : lookT M ((uniq (occ t))[s k]'(by omega)) with
   | none => exact absurd hq (hdom _ hm)
   | some w => rfl
  ·rintro ⟨ho, hl⟩
   obtain ⟨j, hj, ej⟩ := List.getElem_of_mem ((z9j _ _).2 ho)
   have hjn : j < n := by omega
   refine List.mem_map.2 ⟨D' (r j), List.mem_map.2 ⟨r j, List.mem_range.2 (h4 j (Nat.zero_le _) hjn).2, rfl⟩, ?_⟩
   rw [h5, h2, hat j hjn]
   obtain ⟨p1, p2⟩ := p
   simp only at ej hl
   subst ej
   rw [hl]; rfl
 ·rw [List.pairwise_map]
  unfold rowF
  rw [List.pairwise_map, List.pairwise_iff_getElem]
  intro i j hi hj hij
  simp at hi hj
  simp only [List.getElem_range]
  have hle := hz i j (Nat.zero_le _) hij hj
  rcases Int.lt_or_eq_of_le hle with h | h
  ·exact h
  ·exfalso
   rw [h5 i, h5 j] at h
   have si := (h3 i (Nat.zero_le _) hi).2
   have sj := (h3 j (Nat.zero_le _) hj).2
   have e1 := congrArg Prod.fst (hat _ si)
   have e2 := congrArg Prod.fst (hat _ sj)
   simp only at e1 e2
   have e3 : (uniq (occ t))[s i]'(by omega) = (uniq (occ t))[s j]'(by omega) := by rw [← e1, ← e2]; exact h
   have hpw := List.pairwise_iff_getElem.1 hnd
   have e4 : s i = s j := by
    rcases Nat.lt_or_ge (s i) (s j) with q | q
    ·exact absurd e3 (hpw _ _ (by omega) (by omega) q)
    ·rcases Nat.lt_or_ge (s j) (s i) with q2 | q2
     ·exact absurd e3.symm (hpw _ _ (by omega) (by omega) q2)
     ·omega
   have e5 := h1 i
   rw [e4, h1 j] at e5
   omega
theorem zbn {H : Heap} (hw : H.wf) : EvF Tryz.prog okT 54 [.slice none 0 0, .int .i64 0, .int .i64 0, cvB] H fun _ H' => H' = H := by
 refine EvF.enter rfl Tryz.func54 (by decide) rfl ?_
 have hw1 : IntKind.i64.wrap ((0 : Int) + 1) = 1 := rfl
 have hd : decide ((1 : Int) < 0) = false := rfl
 (repeat refine ya ?_); refine yb ?_; simp (config := { maxSteps := 2000000 }) (disch := first | omega | rfl) only [sB, initTm, Nat.reduceEqDiff, Nat.reduceAdd, reduceCtorEq, hw1]
 refine yd (EvC.loop1 ?_)
 repeat' (first | refine ya ?_ | refine yg ?_ | refine yd ?_ | (refine ye ?_) | (refine yf ?_; try simp only [sB]) | (refine yc ?_; try simp only [z01, z00]) | (refine yb ?_; simp (config := { maxSteps := 2000000 }) (disch := first | omega | rfl) only [sB, Nat.reduceEqDiff, reduceCtorEq, hd]) | (refine yh ?_ ?_; simp (config := { maxSteps := 2000000 }) (disch := first | omega | rfl) only [sB, Nat.reduceEqDiff, reduceCtorEq]; refine z03 ?_) | (refine yi ?_ ?_; simp (config := { maxSteps := 2000000 }) (disch := first | omega | rfl) only [sB, Nat.reduceEqDiff, reduceCtorEq]; refine z03 ?_))
 exact z0p rfl rfl
theorem zif {lim : Nat} {H : Heap} (hw : H.wf) : EvF Tryz.prog okT 45 [.slice none 0 0, .int .i64 0, .int .i64 0, .int .i64 (lim : Nat), cvB] H fun _ H' => H' = H := by
 refine EvF.enter rfl Tryz.func45 (by decide) rfl ?_
 have hwl : IntKind.i64.wrap ((0 : Int) - 0) = 0 := rfl
 have hd : decide ((0 : Int) ≤ 12) = true := rfl
 (repeat refine ya ?_); refine yb ?_; simp (config := { maxSteps := 2000000 }) (disch := first | omega | rfl) only [sA, initTm, Nat.reduceAdd]
 (repeat refine ya ?_); refine yb ?_; simp (config := { maxSteps := 2000000 }) (disch := first | omega | rfl) only [sA]
 (repeat refine ya ?_)
 refine yd (EvC.loop1 ?_)
 (repeat refine ya ?_)
 refine yd ?_
 repeat' (first | refine ya ?_ | refine yg ?_ | refine yd ?_ | (refine ye ?_) | (refine yf ?_) | (refine yc ?_; try simp only [z01, z00]) | (refine yb ?_; simp (config := { maxSteps := 2000000 }) (disch := first | omega | rfl) only [sB, Nat.reduceEqDiff, reduceCtorEq, cl54, hwl, hd]) | (refine yh ?_ ?_; simp (config := { maxSteps := 2000000 }) (disch := first | omega | rfl) only [sB, Nat.reduceEqDiff, reduceCtorEq]; refine z03 ?_))
 refine (zbn hw).mono ?_
 rintro v H2 rfl
 repeat' (first | refine ya ?_ | refine yg ?_ | refine yd ?_ | (refine ye ?_) | (refine yf ?_) | (refine yc ?_; try simp only [z01, z00]))
 exact z2j rfl rfl
theorem zfr {H : Heap} (hw : H.wf) : EvF Tryz.prog okT 25 [.slice none 0 0, cvB] H fun _ H' => H' = H := by
 refine EvF.enter rfl Tryz.func25 (by decide) rfl ?_
 have hu : IntKind.u64.wrap ((0 : Nat) : Int) = ((0 : Nat) : Int) := rfl
 repeat' (first | refine ya ?_ | refine yg ?_ | refine yd ?_ | (refine ye ?_) | (refine yf ?_) | (refine yc ?_; try simp only [z01, z00]) | (refine yb ?_; simp (config := { maxSteps := 2000000 }) (disch := first | omega | rfl) only [sB, initTm, Nat.reduceEqDiff, reduceCtorEq, ln27, zgv, cl46, cl45, hu]))
 refine (zi3 (x := 0) (by omega)).mono ?_
 rintro v H2 ⟨rfl, rfl⟩
 repeat' (first | refine ya ?_ | refine yg ?_ | refine yd ?_ | (refine ye ?_) | (refine yf ?_) | (refine yc ?_; try simp only [z01, z00]))
 refine (zif hw).mono ?_
 rintro v H3 rfl
 repeat' (first | refine ya ?_ | refine yg ?_ | refine yd ?_ | (refine ye ?_) | (refine yf ?_) | (refine yc ?_; try simp only [z01, z00]))
 exact z0p rfl rfl
end Go.Proofs.hq
end

section
namespace Go.Proofs.hq
open Go Go.RowKit Go.Hb
variable {ok : Ok}
set_option maxRecDepth 10000
attribute [local irreducible] LX LG EL STG SOP SGO SGD SAL SRD SEF SEG SLK SCK ES
theorem BsF.rep7 {H : Heap} {S : Nat → Prop} {n : Nat} {a : Option Addr} {c : Nat} {D : Nat → Bnd} (h : BsF H S n a c D) : RepB7 H ((rowF n D).map pairB) a c ∧ ((rowF n D).map pairB).length = n := by
 have hl : ((rowF n D).map pairB).length = n := by rw [List.length_map, zjp]
 refine ⟨?_, hl⟩
 rcases h with ⟨rfl, rfl, rfl⟩ | ⟨b, rfl, hn, hm, hr, -, hel, -⟩
 ·exact ⟨by simp [rowF], by simp [maxLen], fun i hi => by simp [rowF] at hi⟩
 ·refine ⟨by rw [hl]; exact hn, hm, fun i hi => ?_⟩
  have hi' : i < n := by omega
  obtain ⟨b1, b2, -⟩ := hel i hi'
  have e : ((rowF n D).map pairB)[i] = pairB (D i) := by simp [rowF]
  rw [e]
  refine ⟨b, 0, (D i).e.a, (D i).e.c, rfl, by rw [Nat.zero_add]; exact hr.load hi', ?_⟩
  exact RepF.rep (T := 25) (S := (D i).e.S) ⟨_, _, rfl, b1, b2⟩
set_option maxHeartbeats 16000000 in
theorem zk2 {t u : Tm} {cs cu : List Value} {H : Heap} (r0 : RepT H t cs) (r1 : RepT H u cu) (hw : H.wf) :
  EvF Tryz.prog okT 5 [.agg ⟨cs⟩, .agg ⟨cu⟩] H fun v H' => HX H H' ∧
   ((chkL [t, u] = 0 ∧ ∃ n a c D, v = .tuple ⟨[.slice a n c, .bool true, .int .i64 0]⟩ ∧ BsF H' (Rg H.next H'.next) n a c D ∧ n ≤ 4000 ∧ Told t u ((rowF n D).map pairB)) ∨
    (chkL [t, u] = 0 ∧ matchS t u [] = none ∧ v = .tuple ⟨[.slice none 0 0, .bool false, .int .i64 0]⟩) ∨
    (chkL [t, u] ≠ 0 ∧ v = .tuple ⟨[.slice none 0 0, .bool false, .int .i64 (chkL [t, u])]⟩)) := by
 have r00 := r0; have r10 := r1
 have hcall : callable Tryz.prog 21 = true := by kernel_rfl
 obtain ⟨a, c, cells, rfl, -, -, -, -, -, rl⟩ := r0.six
 obtain ⟨a', c', cells', rfl, -, -, -, -, -, rl'⟩ := r1.six
 refine EvF.enter rfl Tryz.func5 (by decide) rfl ?_
 (repeat refine ya ?_); refine yb ?_; simp (config := { maxSteps := 2000000 }) (disch := first | omega | rfl) only [sB, initTm, dBox, Nat.reduceEqDiff, Value.cells, one, reduceCtorEq]
 obtain ⟨H2, e2, hx2, gt, gu, hn2, hw2⟩ := new2 hw (.row (six t a c) 25) (.row (six u a' c') 25)
 simp only [e2]
 have q1 := row6 gt
 have q2 := row6 gu
 clear e2
 repeat' (first | refine ya ?_ | refine yg ?_ | refine yd ?_ | (refine ye ?_) | (refine yf ?_) | (refine yc ?_; try simp only [z01, z00]) | (refine yb ?_; simp (config := { maxSteps := 2000000 }) (disch := first | omega | rfl) only [sB, Nat.reduceEqDiff, Nat.reduceAdd, Value.cells, one, reduceCtorEq, Nat.reduceLeDiff, layC, ld25, ze2, cl20, q1, q2]))
 obtain ⟨H3, e3, hx3, g3, hn3, hw3⟩ := new1 hw2 (.row (six t a c ++ six u a' c') 25)
 have e3' := e3
 simp only [six, List.cons_append, List.nil_append] at e3'
 simp only [e3']
 clear e3 e3'
 have hx23 := hx2.trans hx3
 refine (zi6 (RepL.two (r00.mono hx23 hw) (r10.mono hx23 hw) g3) hw3).mono ?_
 rintro v H4 ⟨rfl, hx4⟩
 have hx := hx23.trans hx4
 have gt := hx4.get hw3 (hx3.get hw2 gt)
 have gu := hx4.get hw3 (hx3.get hw2 gu)
 by_cases h0 : chkL [t, u] = 0
 rotate_left
 ·repeat' (first | refine ya ?_ | refine yg ?_ | refine yd ?_ | (refine ye ?_) | (refine yf ?_) | (refine yc ?_; try simp only [z01, z00]) | (refine yb ?_; simp (config := { maxSteps := 2000000 }) (disch := first | omega | rfl) only [sB, Nat.reduceEqDiff, reduceCtorEq, z35 h0]) | (refine yh ?_ ?_; simp (config := { maxSteps := 2000000 }) (disch := first | omega | rfl) only [sB, Nat.reduceEqDiff, reduceCtorEq]; refine z03 ?_))
  exact z3i rfl (by simp only [sG, Nat.reduceEqDiff, reduceCtorEq] <;> rfl) (by simp only [sG, Nat.reduceEqDiff, reduceCtorEq] <;> rfl) (by simp only [sG, Nat.reduceEqDiff, reduceCtorEq] <;> rfl) ⟨hx, .inr (.inr ⟨h0, rfl⟩)⟩
 have hct : checkS t = 0 := z40 h0 t (by simp)
 have hcu : checkS u = 0 := z40 h0 u (by simp)
 have hft := (z39.1 hct).2
 have hfu := (z39.1 hcu).2
 have n4 := hx.next
 have n24 := hx2.next
 clear hx23 q1 q2 g3 hn3
 try simp (config := { maxSteps := 2000000 }) (disch := first | omega | rfl) only []
 (repeat refine ya ?_); refine yb ?_; simp (config := { maxSteps := 2000000 }) (disch := first | omega | rfl) only [sB, Nat.reduceEqDiff, reduceCtorEq, z14 h0]
 (repeat refine ya ?_); refine yi (by simp (config := { maxSteps := 2000000 }) (disch := first | omega | rfl) only [sB, Nat.reduceEqDiff, reduceCtorEq]) ?_; (try refine ye ?_); (try simp only [z02, z09])
 (repeat refine ya ?_); refine yb ?_; simp (config := { maxSteps := 2000000 }) (disch := first | omega | rfl) only [sB, dAlloc, Nat.reduceEqDiff, one, reduceCtorEq, zr53, st53, z74]
 obtain ⟨H5, e5, k5, gr, n5, w5⟩ := new1 hx.wf (.map [] 0)
 obtain ⟨H6, e6, k6, gp, n6, w6⟩ := z3q w5 (.row [.map none] 53) (.row [.map (some H4.next)] 53)
 rw [n5] at e6 gp n6
 simp only [e5, e6]
 have gr := k6.get w5 gr
 have k56 := k5.trans k6
 have gt := k56.get hx.wf gt
 have gu := k56.get hx.wf gu
 have hm0 : MapT H H6 H4.next [] := ⟨[], ⟨[], 0, gr, rfl⟩, fun n => ⟨fun u hu => by simp [lookT] at hu, fun _ => rfl⟩⟩
 have hx := hx.trans k56
 clear e5 e6 k5 k6 k56 gr
 (repeat refine ya ?_); refine yb ?_; simp (config := { maxSteps := 2000000 }) (disch := first | omega | rfl) only [sA, dAlloc, zr38]
 (repeat refine ya ?_); refine yb ?_; simp (config := { maxSteps := 2000000 }) (disch := first | omega | rfl) only [sB, Nat.reduceEqDiff, one, reduceCtorEq, st38, List.map_toArray]
 obtain ⟨H7, e7, k7, gf, n7, w7⟩ := z3q w6 (.row [.nilFunc] 38) (.row [.func (.func 21) #[] #[.pointer (some ⟨H4.next + 1, 0, none⟩), .pointer (some ⟨H6.next, 0, none⟩)]] 38)
 simp only [e7]
 clear e7
 have gp := k7.get w6 gp
 have gt := k7.get w6 gt
 have gu := k7.get w6 gu
 have hm0 := hm0.keep k7 w6
 have hx := hx.trans k7
 have q1 := row6 gt
 have q2 := row6 gu
 have lf := row1 gf
 have hrr : H.next ≤ H4.next := n4
 have hpr : H4.next + 1 ≠ H4.next := by omega
 have hfr : H6.next ≠ H4.next := by omega
 have hrt : H.next + 2 ≤ H4.next := by have := hx4.next; have := hx3.next; omega
 generalize H4.next + 1 = p at *
 generalize H4.next = r at *
 generalize H6.next = f at *
 clear n5 n6 n7 n4 n24 hn2 hx2 hx3 hx4 k7 w6 hw2 hw3
 (repeat refine ya ?_); refine yb ?_; simp (config := { maxSteps := 2000000 }) (disch := first | omega | rfl) only [sB, Nat.reduceEqDiff, reduceCtorEq, ld25, ld38, q1, q2, lf, z0r, z0g hcall]
 refine (zmq hw hpr hfr hrr _ (Nat.lt_succ_self _) r00 r10 hft hfu (M := []) (fun p hp => by cases hp) hx gp gf hm0).mono ?_
 rintro v H9 ⟨k9, h9⟩
 have hx9 : HX H H9 := hx.then k9 (fun n hn q => by have q' : n = r := q; omega)
 rcases h9 with ⟨M, eM, rfl, hm9, hfM⟩ | ⟨eN, rfl⟩
 rotate_left
 ·repeat' (first | refine ya ?_ | refine yg ?_ | refine yd ?_ | (refine ye ?_) | (refine yf ?_) | (refine yc ?_; try simp only [z01, z00]) | (refine yb ?_; simp (config := { maxSteps := 2000000 }) (disch := first | omega | rfl) only [sA]) | (refine z0w ?_; simp (config := { maxSteps := 2000000 }) (disch := first | omega | rfl) only [sA, Bool.not_false]) | (refine yh ?_ ?_; simp (config := { maxSteps := 2000000 }) (disch := first | omega | rfl) only [sB, Nat.reduceEqDiff, reduceCtorEq]; refine z03 ?_))
  exact z3i rfl (by simp only [sG, Nat.reduceEqDiff, reduceCtorEq] <;> rfl) (by simp only [sG, Nat.reduceEqDiff, reduceCtorEq] <;> rfl) (by simp only [sG, Nat.reduceEqDiff, reduceCtorEq] <;> rfl) ⟨hx9, .inr (.inl ⟨h0, eN, rfl⟩)⟩
 have gt9 := k9.get hx.wf gt (by omega)
 have gp9 := k9.get hx.wf gp hpr
 have q19 := row6 gt9
 repeat' (first | refine ya ?_ | refine yg ?_ | refine yd ?_ | (refine ye ?_; try simp only [z02]) | (refine yf ?_) | (refine yc ?_; try simp only [z01, z00]) | (refine yb ?_; simp (config := { maxSteps := 2000000 }) (disch := first | omega | rfl) only [sB, Nat.reduceEqDiff, Nat.reduceAdd, Value.cells, one, reduceCtorEq, layC, ld25, zky, cl23, q19]) | (refine z0w ?_; simp (config := { maxSteps := 2000000 }) (disch := first | omega | rfl) only [sA, Bool.not_true]) | (refine yh ?_ ?_; simp (config := { maxSteps := 2000000 }) (disch := first | omega | rfl) only [sB, Nat.reduceEqDiff, reduceCtorEq]; refine z03 ?_) | (refine yi ?_ ?_; simp (config := { maxSteps := 2000000 }) (disch := first | omega | rfl) only [sB, Nat.reduceEqDiff, reduceCtorEq]; refine z03 ?_))
 obtain ⟨H10, e10, k10, g10, n10, w10⟩ := new1 hx9.wf (.row (six t a c) 25)
 simp only [e10]
 clear e10
 have hx10 := hx9.trans k10
 have eo : occL [t] = occ t := by rw [occL, occL, List.append_nil]
 have hfew := zi9 hct
 have hul := zeg (occ t)
 refine (zbk (RepL.one (r00.mono hx10 hw) g10) (by rw [eo]; unfold most; omega) w10).mono ?_
 rw [eo]
 rintro v H11 ⟨hI, k11⟩
 obtain ⟨va, vc, rfl, hvl, hvm⟩ := hI.slice
 have k911 := k10.trans k11
 have gp11 := k911.get hx9.wf gp9
 have hm11 := hm9.keep k911 hx9.wf
 have hx11 := hx10.trans k11
 have hb11 := hx11.next
 have w11 := hx11.wf
 have hdom := (zbl _ (Nat.lt_succ_self _) hft eM).2
 clear q19 q1 q2 lf gt gu gf gp gt9 gp9 hm9 hm0 k9 k10 k11 k911 g10 n10 w10 hx10 hx9 hx
 repeat' (first | refine ya ?_ | refine yg ?_ | refine yd ?_ | (refine ye ?_) | (refine yf ?_) | (refine yc ?_; try simp only [z01, z00]) | (refine z0w ?_; simp (config := { maxSteps := 2000000 }) (disch := first | omega | rfl) only [sA, ln42]))
 refine yk (fun k st => ∃ tm H' BL v, st = ⟨tm, [], H'⟩ ∧ k = (uniq (occ t)).length - BL.length ∧ BL.length ≤ (uniq (occ t)).length ∧ tm.get 8 = some (.pointer (some ⟨p, 0, none⟩)) ∧ tm.get 10 = some v ∧ tm.get 29 = some (.slice va (uniq (occ t)).length vc) ∧ tm.get 30 = some (.int .i64 (uniq (occ t)).length) ∧ tm.get 31 = some (.int .i64 (BL.length : Nat)) ∧
  BdV H' 37 H11.next v BL ∧ BL.map pairB = ((uniq (occ t)).take BL.length).map (fun k => (k, (lookT M k).getD zeroT)) ∧ (∀ d ∈ BL, Bd d.e.t ∧ FL H' 25 d.e.S d.e.t.args d.e.a d.e.c ∧ ∀ x, d.e.S x → H11.next ≤ x ∧ x < H'.next) ∧
  BL.Pairwise (fun d e => ∀ x, d.e.S x → ¬ e.e.S x) ∧ HX H11 H') ?_ (uniq (occ t)).length _ ?_
 rotate_left
 ·exact ⟨_, _, [], _, rfl, rfl, Nat.zero_le _, (by simp only [sG, Nat.reduceEqDiff, reduceCtorEq] <;> rfl), (by simp only [sG, Nat.reduceEqDiff, reduceCtorEq] <;> rfl), (by simp only [sG, Nat.reduceEqDiff, reduceCtorEq] <;> rfl), (by simp only [sG, Nat.reduceEqDiff, reduceCtorEq] <;> rfl), (by simp only [sB, Nat.reduceEqDiff, reduceCtorEq] <;> rfl), .inl ⟨rfl, rfl⟩, by simp, (fun d hd => by cases hd), List.Pairwise.nil, HX.refl w11⟩
 rintro k st ⟨tm, G, BL, v, rfl, rfl, hi, t8, t10, t29, t30, t31, hbd, hpb, hel, hdj, hxG⟩
 have wG := hxG.wf
 by_cases hlt : BL.length < (uniq (occ t)).length
 ·obtain ⟨vb, rfl, -, hld, -⟩ := hI.at hlt
  have hld := hxG.load w11 hld
  have hmem : (uniq (occ t))[BL.length] ∈ occ t := (z9j _ _).1 (List.getElem_mem _)
  have lpG := row1 (hxG.get w11 gp11)
  obtain ⟨MM, hM, hMn⟩ := hm11.keep hxG w11
  rcases z9g (lookT M (uniq (occ t))[BL.length]) with ⟨w, hl⟩ | hl
  rotate_left
  ·exact absurd hl (hdom _ hmem)
  obtain ⟨csw, hg, hrw⟩ := (hMn _).1 w hl
  obtain ⟨a1, c1, cells1, rfl, -⟩ := hrw.six
  have htk : (uniq (occ t)).take (BL.length + 1) = (uniq (occ t)).take BL.length ++ [(uniq (occ t))[BL.length]] := by rw [← List.take_append_getElem hlt]
  generalize (uniq (occ t))[BL.length] = nn at *
  repeat' (first | refine ya ?_ | refine yg ?_ | refine yd ?_ | (refine ye ?_; try simp only [z02]) | (refine yf ?_) | (refine yc ?_; try simp only [z01, z00]) | (refine yb ?_; simp (config := { maxSteps := 2000000 }) (disch := first | omega | rfl) only [sB, Nat.reduceEqDiff, Nat.reduceAdd, Value.cells, one, Nat.reduceLeDiff, layC, ia42, ld3, ld53, cl24, bd37, t8, t10, t29, t30, t31, decl hlt, hld, lpG, z36, z99 zjr hM hg, Bool.false_eq_true]) | (refine yh ?_ ?_; simp (config := { maxSteps := 2000000 }) (disch := first | omega | rfl) only [sB]; refine z03 ?_))
  have hxx := hx11.trans hxG
  refine (zmd (Nat.lt_succ_self _) (hrw.mono hxx hw) (hfM _ (z3a hl)) wG).mono ?_
  rintro v2 H12 ⟨cs', rfl, ⟨a2, c2, rfl, hb2, hf2⟩, k12⟩
  have w12 := k12.wf
  have n12 := k12.next
  have nG := hxG.next
  have hlo : ∀ b c, v = .slice (some ⟨b, 0, none⟩) BL.length c → b < G.next := fun b c e => by
   rcases hbd with ⟨-, h⟩ | ⟨b', c', h, -, -, hg', -⟩
   ·rw [h] at e; cases e
   ·rw [h] at e; cases e; exact wG _ _ hg'
  obtain ⟨H13, v3, hpush, hbd3, k13, keep13⟩ := (hbd.heap k12 wG).push (x := ⟨nn, ⟨w, a2, c2, Rg G.next H12.next⟩⟩) ap27 w12 (by unfold most; omega) (by omega) (fun d hd n hn => by
   rcases List.mem_append.1 hd with h | h
   ·have := ((hel d h).2.2 n hn).2; omega
   ·rw [List.mem_singleton] at h; subst h; exact hn.2) hlo (fun n hn => hn.1)
  repeat' (first | refine ya ?_ | refine yg ?_ | refine yd ?_ | (refine ye ?_) | (refine yf ?_) | (refine yc ?_; try simp only [z01, z00]) | (refine yb ?_; simp (config := { maxSteps := 2000000 }) (disch := first | omega | rfl) only [sB, Nat.reduceEqDiff, t31, z06]) | (refine z0w ?_; simp (config := { maxSteps := 2000000 }) (disch := first | omega | rfl) only [sB, Nat.reduceEqDiff, Nat.reduceAdd, Value.cells, one, layC, zkz, hpush]))
  have hx13 : HX H11 H13 := (hxG.trans k12).then k13 (fun n hn q => by have q' : H11.next ≤ n := q; omega)
  have n13 := k13.next
  refine ⟨(uniq (occ t)).length - (BL.length + 1), by omega, _, _, BL ++ [⟨nn, ⟨w, a2, c2, Rg G.next H12.next⟩⟩], v3, rfl, by simp, by simp; omega, (by simp only [sG, Nat.reduceEqDiff, t8] <;> rfl), (by simp only [sG, Nat.reduceEqDiff] <;> rfl), (by simp only [sG, Nat.reduceEqDiff, t29] <;> rfl), (by simp only [sG, Nat.reduceEqDiff, t30] <;> rfl), by simp only [List.length_append, List.length_singleton]; first | (simp only [sB, Nat.reduceEqDiff]; rfl) | simp only [], hbd3, ?_, fun d hd => ?_, ?_, hx13⟩
  ·rw [List.map_append, hpb, List.length_append, List.length_singleton, htk, List.map_append]
   simp [hl]
  ·have hk := keep13 d hd
   rcases List.mem_append.1 hd with h | h
   ·obtain ⟨b1, b2, b3⟩ := hel d h
    exact ⟨b1, (b2.keep k12 wG).heap (fun n hn _ => hk n hn) w12, fun x hx => ⟨(b3 x hx).1, by have := (b3 x hx).2; omega⟩⟩
   ·rw [List.mem_singleton] at h
    subst h
    exact ⟨hb2, hf2.heap (fun n hn _ => hk n hn) w12, fun x hx => ⟨by have := hx.1; omega, by have := hx.2; omega⟩⟩
  ·rw [List.pairwise_append]
   refine ⟨hdj, List.pairwise_singleton .., fun d hd e he x hx hx2 => ?_⟩
   rw [List.mem_singleton] at he
   subst he
   have := ((hel d hd).2.2 x hx).2
   have := hx2.1
   omega
 ·have hN : BL.length = (uniq (occ t)).length := by omega
  rw [hN, List.take_of_length_le (Nat.le_refl _)] at hpb
  have hxGG := hx11.trans hxG
  rcases hbd with ⟨rfl, rfl⟩ | ⟨b, cc, rfl, hlc, hcm, hg, hbb, hSb⟩
  ·have hd0 : decide (((0 : Nat) : Int) < ((uniq (occ t)).length : Int)) = false := decide_eq_false (by simp at hN; omega)
   repeat' (first | refine ya ?_ | refine yg ?_ | refine yd ?_ | (refine ye ?_) | (refine yf ?_; try simp only [sB]) | (refine yc ?_; try simp only [z01, z00]) | (refine yb ?_; simp (config := { maxSteps := 2000000 }) (disch := first | omega | rfl) only [sB, Nat.reduceEqDiff, cl25, t10, t30, t31, hd0]) | (refine yh ?_ ?_; simp (config := { maxSteps := 2000000 }) (disch := first | omega | rfl) only [sB]; refine z03 ?_) | (refine yi ?_ ?_; simp (config := { maxSteps := 2000000 }) (disch := first | omega | rfl) only [sB]; refine z03 ?_))
   refine (zfr wG).mono ?_
   rintro v G2 rfl
   repeat' (first | refine ya ?_ | refine yg ?_ | refine yd ?_ | (refine ye ?_) | (refine yf ?_) | (refine yc ?_; try simp only [z01, z00]) | (refine yb ?_; simp (config := { maxSteps := 2000000 }) (disch := first | omega | rfl) only [sB, Nat.reduceEqDiff, t10]))
   exact z3i rfl (by simp only [sG, Nat.reduceEqDiff] <;> rfl) (by simp only [sG, Nat.reduceEqDiff] <;> rfl) (by simp only [sG, Nat.reduceEqDiff] <;> rfl) ⟨hxGG, .inl ⟨h0, 0, none, 0, atB [], rfl, .inl ⟨rfl, rfl, rfl⟩, by omega, zie eM hfM hdom rfl hpb (Pm.refl _) (InZ.few (by omega))⟩⟩
  ·repeat' (first | refine ya ?_ | refine yg ?_ | refine yd ?_ | (refine ye ?_) | (refine yf ?_; try simp only [sB]) | (refine yc ?_; try simp only [z01, z00]) | (refine yb ?_; simp (config := { maxSteps := 2000000 }) (disch := first | omega | rfl) only [sB, Nat.reduceEqDiff, cl25, t10, t30, t31, decn hlt]) | (refine yh ?_ ?_; simp (config := { maxSteps := 2000000 }) (disch := first | omega | rfl) only [sB]; refine z03 ?_) | (refine yi ?_ ?_; simp (config := { maxSteps := 2000000 }) (disch := first | omega | rfl) only [sB]; refine z03 ?_))
   refine (zk0 (RowB.flat hg) (by unfold most; omega) wG).mono ?_
   rintro v G2 ⟨D', r14, m14, i14, k14⟩
   repeat' (first | refine ya ?_ | refine yg ?_ | refine yd ?_ | (refine ye ?_) | (refine yf ?_) | (refine yc ?_; try simp only [z01, z00]) | (refine yb ?_; simp (config := { maxSteps := 2000000 }) (disch := first | omega | rfl) only [sB, Nat.reduceEqDiff, t10]))
   have n14 := k14.next
   have hbG := wG _ _ hg
   obtain ⟨s, rr, h1, h2, h3, h4, h5⟩ := Pm.sig m14
   have hmemB : ∀ k, k < BL.length → D' k ∈ BL := fun k hk => by
    have := (h3 k (Nat.zero_le _) hk).2
    rw [h5, zbm this]; exact List.getElem_mem _
   refine z3i rfl (by simp only [sG, Nat.reduceEqDiff] <;> rfl) (by simp only [sG, Nat.reduceEqDiff] <;> rfl) (by simp only [sG, Nat.reduceEqDiff] <;> rfl) ⟨hxGG.then k14 (fun n hn q => by have q' : n = b := q; omega), .inl ⟨h0, BL.length, some ⟨b, 0, none⟩, cc, D', rfl, .inr ⟨b, rfl, hlc, hcm, r14, ⟨by omega, by omega⟩, fun k hk => ?_, fun j k x hj hk hxj hxk => ?_⟩, by omega, zie eM hfM hdom rfl hpb m14 i14⟩⟩
   ·obtain ⟨b1, b2, b3⟩ := hel _ (hmemB k hk)
    exact ⟨b1, b2.beside k14 wG (fun n hn q => by have q' : n = b := q; have := hSb _ (hmemB k hk) n hn; omega), fun x hx => ⟨⟨by have := (b3 x hx).1; omega, by have := (b3 x hx).2; omega⟩, by have := hSb _ (hmemB k hk) x hx; omega⟩⟩
   ·have sj := (h3 j (Nat.zero_le _) hj).2
    have sk := (h3 k (Nat.zero_le _) hk).2
    rw [h5, zbm sj] at hxj
    rw [h5, zbm sk] at hxk
    have hpw := List.pairwise_iff_getElem.1 hdj
    have e : s j = s k := by
     rcases Nat.lt_or_ge (s j) (s k) with q | q
     ·exact absurd hxk (hpw _ _ sj sk q x hxj)
     ·rcases Nat.lt_or_ge (s k) (s j) with q2 | q2
      ·exact absurd hxj (hpw _ _ sk sj q2 x hxk)
      ·omega
    have e1 := h1 j
    rw [e, h1 k] at e1
    exact e1.symm
end Go.Proofs.hq
end

section
namespace Go.Hb
open Go Go.RowKit
def Src (H : Heap) (s : Nat) (L : List (List Value)) (v : Value) (b : Nat) : Prop :=
 (L = [] ∧ ∃ a c, v = .slice a 0 c) ∨ ∃ o c, v = .slice (some ⟨b, o, none⟩) L.length c ∧ 0 < L.length ∧ H.load ⟨b, o, none⟩ (L.length * s) = some L.flatten
theorem zk3 {H H' : Heap} {b o k : Nat} (hg : H'.get b = H.get b) : H'.load ⟨b, o, none⟩ k = H.load ⟨b, o, none⟩ k := by
 unfold Heap.load Heap.cells
 simp only [hg]
theorem Src.heap {H H' : Heap} {s : Nat} {L : List (List Value)} {v : Value} {b : Nat} (h : Src H s L v b) (hg : H'.get b = H.get b) : Src H' s L v b := by
 rcases h with h | ⟨o, c, h1, h2, h3⟩
 ·exact .inl h
 ·exact .inr ⟨o, c, h1, h2, by rw [zk3 hg]; exact h3⟩
theorem OwnS.loads {H : Heap} {e : TypeId} {s base b c : Nat} {L : List (List Value)} (h : OwnS H e s base L b c) {k m : Nat} (hk : k + m ≤ L.length) : H.load ⟨b, k * s, none⟩ (m * s) = some ((L.drop k).take m).flatten := by
 obtain ⟨cs, hg, hl, ht⟩ := h.row
 have hle : k * s + m * s ≤ L.length * s := by rw [← Nat.add_mul]; exact Nat.mul_le_mul_right _ hk
 have hc : H.cells b = some cs := by unfold Heap.cells; rw [hg]
 have hsz : ∀ (A : List (List Value)), (∀ x ∈ A, x.length = s) → A.flatten.length = A.length * s := fun A hA => z2r A hA
 have e1 : (cs.drop (k * s)).take (m * s) = ((L.drop k).take m).flatten := by
  have e2 : (cs.drop (k * s)).take (m * s) = (L.flatten.drop (k * s)).take (m * s) := by
   rw [← ht, List.drop_take, List.take_take]; congr 1; omega
  rw [e2]
  conv => lhs; rw [← List.take_append_drop k L, ← List.take_append_drop m (L.drop k)]
  rw [List.flatten_append, List.flatten_append]
  have l1 : (L.take k).flatten.length = k * s := by rw [hsz _ fun x hx => h.sz x (List.mem_of_mem_take hx), List.length_take]; congr 1; omega
  have l2 : ((L.drop k).take m).flatten.length = m * s := by rw [hsz _ fun x hx => h.sz x (List.mem_of_mem_drop (List.mem_of_mem_take hx)), List.length_take, List.length_drop]; congr 1; omega
  rw [List.drop_append, l1, List.drop_eq_nil_of_le (by omega), List.nil_append, Nat.sub_self, List.drop_zero, List.take_append, l2, Nat.sub_self, List.take_zero, List.append_nil, List.take_of_length_le (by omega)]
 have l2 : ((L.drop k).take m).flatten.length = m * s := by rw [hsz _ fun x hx => h.sz x (List.mem_of_mem_drop (List.mem_of_mem_take hx)), List.length_take, List.length_drop]; congr 1; omega
 unfold Heap.load
 simp only [hc, e1]
 rw [if_pos (by rw [Nat.beq_eq]; exact l2)]
theorem RepO.upto {P : Program} {t e : TypeId} {H : Heap} {s base k : Nat} {L : List (List Value)} {a : Option Addr} {c : Nat} (h : RepO H e s base L (.slice a L.length c)) (hp : slcOk P t e s) (hk : k ≤ L.length) :
  dSl P t (.slice a L.length c) none (some (.int .i64 (k : Nat))) none H = some (.val (.slice a k c) H) ∧ ∀ b, (∀ ad, a = some ad → ad.block = b) → Src H s (L.take k) (.slice a k c) b := by
 have hc : L.length ≤ c := by
  rcases h with ⟨rfl, h2⟩ | ⟨b', c', h1, h2⟩
  ·exact Nat.zero_le _
  ·cases h2; exact h1.len
 refine ⟨za7 hp (by omega), fun b hb => ?_⟩
 by_cases h0 : k = 0
 ·subst h0; exact .inl ⟨by simp, _, _, rfl⟩
 rcases h with ⟨rfl, h2⟩ | ⟨b', c', h1, h2⟩
 ·simp at hk; omega
 ·cases h2
  have hb' := hb _ rfl
  subst hb'
  have hlt : (L.take k).length = k := by rw [List.length_take]; omega
  refine .inr ⟨0, c, by rw [hlt], by omega, ?_⟩
  have := h1.loads (k := 0) (m := k) (by omega)
  rw [Nat.zero_mul, List.drop_zero] at this
  rw [hlt]; exact this
theorem RepO.from {P : Program} {t e : TypeId} {H : Heap} {s base k : Nat} {L : List (List Value)} {a : Option Addr} {c : Nat} (h : RepO H e s base L (.slice a L.length c)) (hp : slcOk P t e s) (hk : k ≤ L.length) {b : Nat} (hb : ∀ ad, a = some ad → ad.block = b) :
  ∃ v, (∀ H1 : Heap, (∀ ad, a = some ad → H1.get ad.block = H.get ad.block) → dSl P t (.slice a L.length c) (some (.int .i64 (k : Nat))) none none H1 = some (.val v H1)) ∧ Src H s (L.drop k) v b := by
 obtain ⟨p1, p2, p3⟩ := hp
 obtain ⟨j, hj⟩ := Option.isSome_iff_exists.1 p2
 by_cases h0 : k = 0
 ·subst h0
  refine ⟨.slice a L.length c, fun H1 _ => ?_, ?_⟩
  ·simp only [dSl, dslice, p1, hj, bound, z1d hk]
   rfl
  ·rcases h with ⟨rfl, h2⟩ | ⟨b', c', h1, h2⟩
   ·exact .inl ⟨rfl, _, _, rfl⟩
   ·cases h2
    have hb' := hb _ rfl
    subst hb'
    by_cases hL : L.length = 0
    ·have : L = [] := List.length_eq_zero_iff.1 hL
     subst this
     exact .inl ⟨rfl, _, _, rfl⟩
    refine .inr ⟨0, c, rfl, by simp; omega, ?_⟩
    have := h1.loads (k := 0) (m := L.length) (by omega)
    rw [Nat.zero_mul, List.drop_zero, List.take_of_length_le (Nat.le_refl _)] at this
    rw [List.drop_zero]; exact this
 rcases h with ⟨rfl, h2⟩ | ⟨b', c', h1, h2⟩
 ·simp at hk; omega
 ·cases h2
  have hb' := hb _ rfl
  subst hb'
  have hcl := h1.len
  by_cases hkc : k = c
  ·refine ⟨.slice (some ⟨0, 0, some 0⟩) 0 0, fun H1 _ => ?_, .inl ⟨List.drop_eq_nil_of_le (by omega), _, _, rfl⟩⟩
   have e0 : Nat.beq k 0 = false := by rw [← Bool.not_eq_true, Nat.beq_eq]; omega
   have e1 : Nat.beq k c = true := by rw [Nat.beq_eq]; exact hkc
   simp only [dSl, dslice, p1, hj, bound, z1d hk, e0, e1]
   rfl
  ·obtain ⟨cs, hg, hl, ht⟩ := h1.row
   refine ⟨_, fun H1 h1g => zn5 (P := P) (t := t) (e := e) (s := s) (b := b') (o := 0) (n := L.length) (c := c) (l := k) (k := .i64) ⟨p1, p2, p3⟩ hk (by omega) (by omega) ((h1g _ rfl).trans hg) (.inl ⟨_, rfl⟩), ?_⟩
   by_cases hkl : k = L.length
   ·exact .inl ⟨List.drop_eq_nil_of_le (by omega), _, _, by rw [hkl, Nat.sub_self]⟩
   ·have hld : (L.drop k).length = L.length - k := List.length_drop
    refine .inr ⟨0 + k * s, c - k, by rw [hld], by omega, ?_⟩
    have := h1.loads (k := k) (m := L.length - k) (by omega)
    rw [List.take_of_length_le (by omega)] at this
    rw [hld, Nat.zero_add]; exact this
theorem OwnS.app {P : Program} {t e : TypeId} {H : Heap} {s base b c b' : Nat} {L L' : List (List Value)} {w : Value} (h : OwnS H e s base L b c) (hp : apOk P t e s) (hs : Src H s L' w b') (hz : ∀ x ∈ L', x.length = s) (ha : ∀ x ∈ L', x.all one = true) (hm : L.length + L'.length ≤ most) (hb : base ≤ H.next) (hw : H.wf) :
  ∃ H2 b2 c2, dAp P #[t, t] (.slice (some ⟨b, 0, none⟩) L.length c) w H = some (.val (.slice (some ⟨b2, 0, none⟩) (L ++ L').length c2) H2) ∧ OwnS H2 e s base (L ++ L') b2 c2 ∧ HK (· = b) H H2 ∧ (b2 = b ∨ H.next ≤ b2) := by
 rcases hs with ⟨rfl, a', c', rfl⟩ | ⟨o, c', rfl, hpos, hl⟩
 ·refine ⟨H, b, c, ?_, by rw [List.append_nil]; exact h, HK.refl hw, .inl rfl⟩
  rw [List.append_nil]; exact zlo hp
 ·have hmax : most ≤ maxLen := by simp [most, maxLen]
  obtain ⟨cs, hg, hle, ht⟩ := h.row
  have hone : L'.flatten.all one = true := by
   rw [List.all_eq_true]
   intro z hz
   obtain ⟨x, hx1, hx2⟩ := List.mem_flatten.1 hz
   exact List.all_eq_true.1 (ha x hx1) z hx2
  have hone' : (cs.take (L.length * s)).all one = true := by
   rw [ht, List.all_eq_true]
   intro z hz
   obtain ⟨x, hx1, hx2⟩ := List.mem_flatten.1 hz
   exact List.all_eq_true.1 (h.all x hx1) z hx2
  have hfl : (L ++ L').flatten = cs.take (L.length * s) ++ L'.flatten := by rw [List.flatten_append, ht]
  have hsz : ∀ x ∈ L ++ L', x.length = s := fun x hx => by
   rcases List.mem_append.1 hx with hx | hx
   ·exact h.sz x hx
   ·exact hz x hx
  have hln : (L ++ L').length = L.length + L'.length := List.length_append
  refine ⟨(H.put b none).new (some (.row (cs.take (L.length * s) ++ L'.flatten) e)), H.next, L.length + L'.length, ?_, ⟨hb, ?_, ⟨cs.take (L.length * s) ++ L'.flatten, z0o, ?_, ?_⟩, by omega, by omega, hsz, fun x hx => ?_⟩, ((HK.refl (S := (· = b)) hw).put (.inl rfl) (hw _ _ hg) none).new _, .inr (Nat.le_refl _)⟩
  ·rw [hln]; exact z4m hp hpos hm hl hone hg hle hone'
  ·show H.next < _ + 1
   rw [z1k]; omega
  ·rw [← hfl, z2r _ hsz]; exact Nat.le_refl _
  ·rw [← hfl, List.take_of_length_le (by rw [z2r _ hsz]; exact Nat.le_refl _)]
  ·rcases List.mem_append.1 hx with hx | hx
   ·exact h.all x hx
   ·exact ha x hx
end Go.Hb
end

section
namespace Go.Hb
open Go Go.RowKit
theorem zk4 {s : Nat} {P : Program} {t T : TypeId} (hp : apOk P t T s) (hs : slcOk P t T s) {H : Heap} {base k c : Nat} {a : Option Addr} {L : List (List Value)} (h : RepO H T s base L (.slice a L.length c)) (hk : k ≤ L.length) (hm : L.length + 1 ≤ most) (hb : base ≤ H.next) (hw : H.wf) {x : List Value} (hx : x.length = s) (hx1 : x.all one = true) {n0 n1 : Nat} (hn : n1 < n0) (hn' : 0 < n1) :
  (∀ G : Heap, dSl P t (.slice a L.length c) none (some (.int .i64 (k : Nat))) none G = some (.val (.slice a k c) G)) ∧
  ∃ w, veq w w = true ∧ dSl P t (.slice a L.length c) (some (.int .i64 (k : Nat))) none none ⟨H.next + n0, H.t⟩ = some (.val w ⟨H.next + n0, H.t⟩) ∧
  ∃ b2 c2 H2, dAp P #[t, t] (.slice (some ⟨H.next, 0, none⟩) 0 0) (.slice a k c) ((⟨H.next + n0, H.t⟩ : Heap).put H.next (some (.row [] T))) = some (.val (.slice (some ⟨b2, 0, none⟩) k c2) H2) ∧ HX H H2 ∧
  dSl P t (.slice a L.length c) (some (.int .i64 (k : Nat))) none none H2 = some (.val w H2) ∧
  ∃ b3 c3 H3, dAp P #[t, t] (.slice (some ⟨b2, 0, none⟩) k c2) (.slice (some ⟨H.next + n1, 0, none⟩) 1 1) (H2.put (H.next + n1) (some (.row x T))) = some (.val (.slice (some ⟨b3, 0, none⟩) (k + 1) c3) H3) ∧ HX H H3 ∧
  dSl P t (.slice a L.length c) (some (.int .i64 (k : Nat))) none none H3 = some (.val w H3) ∧
  ∃ b5 c5 H5, dAp P #[t, t] (.slice (some ⟨b3, 0, none⟩) (k + 1) c3) w H3 = some (.val (.slice (some ⟨b5, 0, none⟩) (L.length + 1) c5) H5) ∧ RepO H5 T s base (L.take k ++ [x] ++ L.drop k) (.slice (some ⟨b5, 0, none⟩) (L.length + 1) c5) ∧ HX H H5 := by
 have hlt : (L.take k).length = k := by rw [List.length_take]; omega
 have hld : (L.drop k).length = L.length - k := List.length_drop
 have hLc : L.length ≤ c := by
  rcases h with ⟨rfl, h2⟩ | ⟨b', c', h1, h2⟩
  ·exact Nat.zero_le _
  ·cases h2; exact h1.len
 have hLz : ∀ y ∈ L, y.length = s ∧ y.all one = true := fun y hy => by
  rcases h with ⟨rfl, -⟩ | ⟨b', c', h1, -⟩
  ·cases hy
  ·exact ⟨h1.sz y hy, h1.all y hy⟩
 have hbl : ∀ ad, a = some ad → ad.block < H.next := fun ad he => by
  rcases h with ⟨h1, h2⟩ | ⟨b', c', h1, h2⟩
  ·subst h1; cases h2; cases he
  ·cases h2; cases he; exact h1.hi
 obtain ⟨bo, hbo⟩ : ∃ bo, ∀ ad, a = some ad → ad.block = bo := by
  cases a with
  | none => exact ⟨0, fun ad he => by cases he⟩
  | some ad => exact ⟨ad.block, fun ad' he => by cases he; rfl⟩
 have hbo' : a ≠ none → bo < H.next := fun hn => by
  cases a with
  | none => exact absurd rfl hn
  | some ad => rw [← hbo ad rfl]; exact hbl ad rfl
 obtain ⟨-, hsrc⟩ := h.upto hs hk
 obtain ⟨w, e3, hS3⟩ := h.from hs hk hbo
 have hveq : veq w w = true := by
  rcases hS3 with ⟨-, a', c', rfl⟩ | ⟨o, c', rfl, -⟩
  ·simp [veq]
  ·simp [veq]
 have srcAt : ∀ {L' : List (List Value)} {v : Value} {G : Heap}, (a = none → L' = []) → Src H s L' v bo → HX H G → Src G s L' v bo := fun {L' v G} hn hS hG => by
  cases a with
  | none =>
   rcases hS with h1 | ⟨o, c', h1, h2, -⟩
   ·exact .inl h1
   ·rw [hn rfl] at h2; simp at h2
  | some ad => exact hS.heap (hG.keep bo (hbo' (by simp)))
 have hnil : a = none → L = [] := fun e => by
  rcases h with ⟨h1, -⟩ | ⟨b', c', -, h2⟩
  ·exact h1
  ·rw [e] at h2; cases h2
 have hx00 : HX H ⟨H.next + n0, H.t⟩ := (HX.refl hw).bump n0
 have hx0 : HX H ((⟨H.next + n0, H.t⟩ : Heap).put H.next (some (.row [] T))) := hx00.put (Nat.le_refl _) (by show H.next < H.next + n0; omega) _
 have hn0 : ((⟨H.next + n0, H.t⟩ : Heap).put H.next (some (.row [] T))).next = H.next + n0 := rfl
 have hE : OwnS ((⟨H.next + n0, H.t⟩ : Heap).put H.next (some (.row [] T))) T s base [] H.next 0 := ⟨hb, by rw [hn0]; omega, ⟨[], by rw [get_put, if_pos rfl], by simp, by simp⟩, Nat.le_refl _, Nat.zero_le _, (fun y hy => nomatch hy), (fun y hy => nomatch hy)⟩
 refine ⟨fun G => za7 hs (by omega), w, hveq, e3 _ (fun ad he => rfl), ?_⟩
 obtain ⟨H2, b2, c2, e1, o2, k2, q2⟩ := hE.app hp (srcAt (fun e => by rw [hnil e]; simp) (hsrc bo hbo) hx0) (fun y hy => (hLz y (List.mem_of_mem_take hy)).1) (fun y hy => (hLz y (List.mem_of_mem_take hy)).2) (by simp; omega) (by rw [hn0]; omega) hx0.wf
 have hx2 : HX H H2 := hx0.then k2 fun n hn e => by omega
 have hn2 : H.next + n0 ≤ H2.next := k2.next
 have l2 : ([] ++ L.take k).length = k := by rw [List.nil_append, hlt]
 rw [l2] at e1
 rw [List.nil_append] at o2
 have b2n : b2 = H.next ∨ H.next + n0 ≤ b2 := q2
 refine ⟨b2, c2, H2, e1, hx2, e3 _ (fun ad he => hx2.keep _ (hbl ad he)), ?_⟩
 have hx3 : HX H (H2.put (H.next + n1) (some (.row x T))) := hx2.put (by omega) (by omega) _
 have o3 : OwnS (H2.put (H.next + n1) (some (.row x T))) T s base (L.take k) b2 c2 := o2.heap (by rw [get_put, if_neg]; omega) (Nat.le_refl _)
 have hS2 : Src (H2.put (H.next + n1) (some (.row x T))) s [x] (.slice (some ⟨H.next + n1, 0, none⟩) 1 1) (H.next + n1) := by
  refine .inr ⟨0, 1, rfl, by simp, ?_⟩
  unfold Heap.load Heap.cells
  simp only [get_put, if_pos]
  simp [hx, List.take_of_length_le (Nat.le_of_eq hx)]
 obtain ⟨H3, b3, c3, e2, o4, k3, q3⟩ := o3.app hp hS2 (fun y hy => by rw [List.mem_singleton.1 hy]; exact hx) (fun y hy => by rw [List.mem_singleton.1 hy]; exact hx1) (by rw [hlt]; simp; omega) (by rw [z1k]; omega) hx3.wf
 have hx33 : HX H H3 := hx3.then k3 fun n hn e => by omega
 have l3 : (L.take k ++ [x]).length = k + 1 := by rw [List.length_append, hlt]; rfl
 rw [hlt, l3] at e2
 refine ⟨b3, c3, H3, e2, hx33, e3 _ (fun ad he => hx33.keep _ (hbl ad he)), ?_⟩
 have b3n : H.next ≤ b3 := by
  rcases q3 with q | q
  ·omega
  ·rw [z1k] at q; omega
 obtain ⟨H5, b5, c5, e4, o5, k5, -⟩ := o4.app hp (srcAt (fun e => by rw [hnil e]; simp) hS3 hx33) (fun y hy => (hLz y (List.mem_of_mem_drop hy)).1) (fun y hy => (hLz y (List.mem_of_mem_drop hy)).2) (by rw [l3, hld]; omega) (by have := hx33.next; omega) hx33.wf
 have l5 : (L.take k ++ [x] ++ L.drop k).length = L.length + 1 := by rw [List.length_append, l3, hld]; omega
 rw [l3, l5] at e4
 exact ⟨b5, c5, H5, e4, .inr ⟨b5, c5, o5, by rw [l5]⟩, hx33.then k5 fun n hn e => by omega⟩
end Go.Hb
end

section
namespace Go.Hb
open Go Go.RowKit
structure RepBs (H : Heap) (B : List (Int × Tm)) (a : Option Addr) (c : Nat) : Prop where
 len : B.length ≤ c
 cap : c ≤ maxLen
 el : ∀ (i : Nat) (h : i < B.length), ∃ b o a' c', a = some ⟨b, o, none⟩ ∧ H.load ⟨b, o + i * 7, none⟩ 1 = some [.int .i64 B[i].1] ∧ H.load ⟨b, o + i * 7 + 1, none⟩ 6 = some (six B[i].2 a' c') ∧ RepT H B[i].2 (six B[i].2 a' c')
theorem RepBs.max {H : Heap} {B : List (Int × Tm)} {a : Option Addr} {c : Nat} (h : RepBs H B a c) : B.length ≤ 9223372036854775807 := Nat.le_trans h.len h.cap
theorem RepBs.mono {H H' : Heap} {B : List (Int × Tm)} {a : Option Addr} {c : Nat} (h : RepBs H B a c) (hx : HX H H') (hw : H.wf) : RepBs H' B a c :=
 ⟨h.len, h.cap, fun i hi => let ⟨b, o, a', c', e, l1, l2, r⟩ := h.el i hi; ⟨b, o, a', c', e, hx.load hw l1, hx.load hw l2, r.mono hx hw⟩⟩
end Go.Hb
namespace Go.Proofs.hq
open Go Go.RowKit Go.Hb
variable {ok : Ok}
set_option maxRecDepth 10000
attribute [local irreducible] LX LG EL STG SOP SGO SGD SAL SRD SEF SEG SLK SCK ES
set_option maxHeartbeats 2000000 in
theorem zk5 {B : List (Int × Tm)} {n : Int} {a : Option Addr} {c : Nat} {H : Heap} (h : RepBs H B a c) (hw : H.wf) :
  EvF Tryz.prog okT 29 [.slice a B.length c, .int .i64 n] H fun v H' => HX H H' ∧ match B.find? (fun p => p.1 == n) with
   | some p => ∃ cs, v = .tuple #[.agg ⟨cs⟩, .bool true] ∧ RepT H' p.2 cs
   | none => v = .tuple #[.agg ⟨zero6⟩, .bool false] := by
 have hm := h.max
 refine EvF.enter rfl Tryz.func29 (by decide) rfl ?_
 (repeat refine ya ?_); refine yb ?_; simp (config := { maxSteps := 2000000 }) (disch := first | omega | rfl) only [sA, initTm, dAlloc, zr25]
 obtain ⟨H2, e2, hx2, gq, hn2, hw2⟩ := new1 hw (.row zero6 25)
 simp only [e2]
 repeat' (first | refine ya ?_ | refine yg ?_ | refine yd ?_ | (refine ye ?_) | (refine yf ?_) | (refine yc ?_; try simp only [z01, z00]) | (refine yb ?_; simp (config := { maxSteps := 2000000 }) (disch := first | omega | rfl) only [sA]))
 refine yk (fun k st => ∃ tm i, st = ⟨tm, [], H2⟩ ∧ k = B.length - i ∧ i ≤ B.length ∧ (∀ p ∈ B.take i, p.1 ≠ n) ∧ tm.get 0 = some (.slice a B.length c) ∧ tm.get 1 = some (.int .i64 n) ∧ tm.get 4 = some (.pointer (some ⟨H.next, 0, none⟩)) ∧ tm.get 6 = some (.int .i64 (i : Nat))) ?_ B.length _ ?_
 ·rintro k st ⟨tm, i, rfl, rfl, hi, hn, t0, t1, t4, t6⟩
  by_cases hlt : i < B.length
  ·obtain ⟨b, o, a', c', rfl, l1, l2, r⟩ := h.el i hlt
   have l1 := hx2.load hw l1
   have l2 := hx2.load hw l2
   by_cases he : B[i].1 = n
   ·repeat' (first | refine ya ?_ | refine yg ?_ | refine yd ?_ | (refine ye ?_; try simp only [z02]) | (refine yf ?_) | (refine yc ?_; try simp only [z01, z00]) | (refine yb ?_; simp (config := { maxSteps := 2000000 }) (disch := first | omega | rfl) only [sB, Nat.reduceEqDiff, Nat.reduceAdd, one, reduceCtorEq, ln27, ia27, z75, ld3, zgt, ld25, st25, t0, t1, t4, t6, decl hlt, l1, l2, z1z he, gq]) | (refine yh ?_ ?_; simp (config := { maxSteps := 2000000 }) (disch := first | omega | rfl) only [sB, Nat.reduceEqDiff]; refine z03 ?_))
    have hx3 := hx2.pt (Nat.le_refl _) gq (some (.row (six B[i].2 a' c') 25))
    have hfind : B.find? (fun p => p.1 == n) = some B[i] := by
     rw [List.find?_eq_some_iff_getElem]
     refine ⟨by simp [he], i, hlt, rfl, fun j hj => ?_⟩
     have := hn B[j] (by rw [List.mem_take_iff_getElem]; exact ⟨j, by omega, rfl⟩)
     simp [this]
    refine z0l rfl (by simp only [sB, Nat.reduceEqDiff, t4] <;> rfl) (by simp only [sB, Nat.reduceAdd, cutC, ld25] <;> rfl) (by simp only [sB, Nat.reduceEqDiff] <;> rfl) ⟨hx3, ?_⟩
    rw [hfind]
    exact ⟨_, rfl, r.mono hx3 hw⟩
   ·repeat' (first | refine ya ?_ | refine yg ?_ | refine yd ?_ | (refine ye ?_; try simp only [sA]) | (refine yf ?_) | (refine yc ?_; try simp only [z01, z00]) | (refine yb ?_; simp (config := { maxSteps := 2000000 }) (disch := first | omega | rfl) only [sB, Nat.reduceEqDiff, reduceCtorEq, ln27, ia27, z75, ld3, t0, t1, t6, decl hlt, l1, z0x he, z06]) | (refine yh ?_ ?_; simp (config := { maxSteps := 2000000 }) (disch := first | omega | rfl) only [sB, Nat.reduceEqDiff]; refine z03 ?_) | (refine yi ?_ ?_; simp (config := { maxSteps := 2000000 }) (disch := first | omega | rfl) only [sB, Nat.reduceEqDiff]; refine z03 ?_))
    refine ⟨B.length - (i + 1), by omega, _, i + 1, rfl, rfl, by omega, fun p hp => ?_, (by simp only [sG, reduceCtorEq, t0] <;> rfl), (by simp only [sG, Nat.reduceEqDiff, t1] <;> rfl), (by simp only [sG, Nat.reduceEqDiff, t4] <;> rfl), (by simp only [sB, Nat.reduceEqDiff] <;> rfl)⟩
    rw [← List.take_append_getElem hlt, List.mem_append] at hp
    rcases hp with hp | hp
    ·exact hn p hp
    ·simp at hp; rw [hp]; exact he
  ·repeat' (first | refine ya ?_ | refine yg ?_ | refine yd ?_ | (refine ye ?_) | (refine yf ?_; try simp only [sB]) | (refine yc ?_; try simp only [z01, z00]) | (refine yb ?_; simp (config := { maxSteps := 2000000 }) (disch := first | omega | rfl) only [sB, Nat.reduceEqDiff, Nat.reduceAdd, Value.cells, one, reduceCtorEq, layC, ln27, st25, bd25, t0, t4, t6, decn hlt, gq]) | (refine yh ?_ ?_; simp (config := { maxSteps := 2000000 }) (disch := first | omega | rfl) only [sB, Nat.reduceEqDiff]; refine z03 ?_) | (refine yi ?_ ?_; simp (config := { maxSteps := 2000000 }) (disch := first | omega | rfl) only [sB, Nat.reduceEqDiff]; refine z03 ?_))
   rw [List.take_of_length_le (by omega)] at hn
   have hfind : B.find? (fun p => p.1 == n) = none := by rw [List.find?_eq_none]; intro p hp; simp [hn p hp]
   refine z0l rfl (by simp only [sB, Nat.reduceEqDiff, t4] <;> rfl) (by simp only [sB, Nat.reduceAdd, cutC, ld25] <;> rfl) (by simp only [sB, Nat.reduceEqDiff] <;> rfl) ⟨hx2.pt (Nat.le_refl _) gq _, ?_⟩
   rw [hfind]
 ·exact ⟨_, 0, rfl, rfl, by omega, fun p hp => by simp at hp, (by simp only [sG, reduceCtorEq] <;> rfl), (by simp only [sG, Nat.reduceEqDiff, reduceCtorEq] <;> rfl), (by simp only [sG, Nat.reduceEqDiff, reduceCtorEq] <;> rfl), (by simp only [sB, Nat.reduceEqDiff, reduceCtorEq] <;> rfl)⟩
end Go.Proofs.hq
end

section
namespace Go.Proofs.hq
open Go Go.RowKit Go.Hb
variable {ok : Ok}
set_option maxRecDepth 10000
attribute [local irreducible] LX LG EL STG SOP SGO SGD SAL SRD SEF SEG SLK SCK ES
theorem zle {t : Tm} (h : Fine t) : Few 1000000 t := (Fine.few _ (Nat.lt_succ_self _) h).up (by omega)
theorem zmv {H : Heap} {p : Nat} {T : TypeId} {d : Bnd} (h : H.get p = some (.row d.seven T)) :
  H.load ⟨p, 0, none⟩ 1 = some [.int .i64 d.v] ∧ H.load ⟨p, 0, none⟩ 7 = some d.seven := by
 refine ⟨?_, ?_⟩ <;> simp only [Heap.load, Heap.cells, h] <;> rfl
theorem zmw {i : Nat} (h : 1 ≤ i) (hi : i < 2097153) : IntKind.i64.wrap ((i : Int) - 1) = ((i - 1 : Nat) : Int) := by rw [z06 (by omega) (by omega)]; omega
def intoB (L : List Bnd) (k : Nat) (x : Bnd) : List Bnd := L.take k ++ [x] ++ L.drop k
set_option maxHeartbeats 8000000 in
theorem zmx {L : List Bnd} {x : Bnd} {a : Option Addr} {c base : Nat} {H : Heap} (h : RepO H 37 7 base (L.map Bnd.seven) (.slice a L.length c)) (hm : L.length + 1 ≤ most) (hb : base ≤ H.next) (hw : H.wf) :
  EvF Tryz.prog okT 31 [.slice a L.length c, .agg ⟨x.seven⟩] H fun v H' => HX H H' ∧ ∃ k b5 c5, k ≤ L.length ∧ v = .slice (some ⟨b5, 0, none⟩) (L.length + 1) c5 ∧ RepO H' 37 7 base ((intoB L k x).map Bnd.seven) v ∧
   (∀ j (hj : j < L.length), k ≤ j → x.v < L[j].v) ∧ (∀ (_ : 0 < k) (hk : k ≤ L.length), ¬ x.v < (L[k - 1]'(by omega)).v) := by
 have hms : most ≤ 1048576 := by simp [most]
 have ean : apOk Tryz.prog 27 37 7 := ap27
 have esl : slcOk Tryz.prog 27 37 7 := sl27
 refine EvF.enter rfl Tryz.func31 (by decide) rfl ?_
 (repeat refine ya ?_); refine yb ?_; simp (config := { maxSteps := 2000000 }) (disch := first | omega | rfl) only [sB, initTm, dBox, Value.cells, one, reduceCtorEq]
 obtain ⟨H2, e2, hx2, gx, hn2, hw2⟩ := new1 hw (.row x.seven 37)
 simp only [e2]
 clear e2
 have h2 := h.keep hx2
 (repeat refine ya ?_); refine yb ?_; simp (config := { maxSteps := 2000000 }) (disch := first | omega | rfl) only [sB, Nat.reduceEqDiff, reduceCtorEq, ln27]
 refine EvC.cut (fun st => ∃ tm H' k, st = ⟨tm, [], H'⟩ ∧ k ≤ L.length ∧ (∀ j (hj : j < L.length), k ≤ j → x.v < L[j].v) ∧ (∀ (_ : 0 < k) (hk : k ≤ L.length), ¬ x.v < (L[k - 1]'(by omega)).v) ∧ tm.get 0 = some (.slice a L.length c) ∧ tm.get 3 = some (.pointer (some ⟨H.next, 0, none⟩)) ∧ tm.get 5 = some (.int .i64 (k : Nat)) ∧ HX H2 H') ?_ ?_
 ·refine yd (yk (fun m st => ∃ tm H', st = ⟨tm, [], H'⟩ ∧ m ≤ L.length ∧ (∀ j (hj : j < L.length), m ≤ j → x.v < L[j].v) ∧ tm.get 0 = some (.slice a L.length c) ∧ tm.get 3 = some (.pointer (some ⟨H.next, 0, none⟩)) ∧ tm.get 5 = some (.int .i64 (m : Nat)) ∧ HX H2 H') ?_ L.length _ ?_)
  rotate_left
  ·exact ⟨_, _, rfl, Nat.le_refl _, fun j hj hk => by omega, (by simp only [sG, reduceCtorEq] <;> rfl), (by simp only [sG, Nat.reduceEqDiff, reduceCtorEq] <;> rfl), (by simp only [sG, Nat.reduceEqDiff, reduceCtorEq] <;> rfl), HX.refl hw2⟩
  rintro m st ⟨tm, H', rfl, hk, hgt, t0, t3, t5, hx⟩
  by_cases hk0 : 0 < m
  rotate_left
  ·repeat' (first | refine ya ?_ | refine yg ?_ | refine yd ?_ | (refine ye ?_) | (refine yf ?_; try simp only [sB, reduceCtorEq]) | (refine yc ?_; try simp only [z01, z00]) | (refine yj (id := 2) [([(0, 0), (1, 0), (2, 0), (3, 0), (4, 0), (5, 0), (6, 0), (7, 0), (8, 0), (9, 0), (10, 0), (11, 0), (12, 0)], none)] ?_ ?_; kernel_rfl; simp (config := { maxSteps := 2000000 }) (disch := first | omega | rfl) only [sD, sB, Nat.reduceEqDiff, Nat.reduceAdd, t5, (decide_eq_false (by omega) : decide ((m : Int) > 0) = false), Bool.false_eq_true, isAlloc, isRead]) | (refine yh ?_ ?_; simp (config := { maxSteps := 2000000 }) (disch := first | omega | rfl) only [sB, Nat.reduceEqDiff]; refine z03 ?_) | (refine yi ?_ ?_; simp (config := { maxSteps := 2000000 }) (disch := first | omega | rfl) only [sB, Nat.reduceEqDiff]; refine z03 ?_))
   exact ⟨_, _, m, rfl, hk, hgt, fun h => absurd h hk0, (by simp only [sG, reduceCtorEq, t0] <;> rfl), (by simp only [sG, Nat.reduceEqDiff, t3] <;> rfl), (by simp only [sG, Nat.reduceEqDiff, t5] <;> rfl), hx.bump _⟩
  have hms1 : m - 1 < L.length := by omega
  have g2 : (L.map Bnd.seven)[m - 1]? = some (L[m - 1].seven) := by rw [List.getElem?_map, List.getElem?_eq_getElem hms1]; rfl
  obtain ⟨bb, cb, ho, eo⟩ := (h2.keep hx).own (by intro e; rw [e] at g2; simp at g2)
  rw [List.length_map] at eo
  obtain ⟨rfl, rfl⟩ : a = some ⟨bb, 0, none⟩ ∧ c = cb := by injection eo with q1 q2 q3; exact ⟨q1, q3⟩
  have ld := ho.part g2 (j := 0) (n := 1) (by omega)
  rw [Nat.add_zero] at ld
  have ld' : H'.load ⟨bb, (m - 1) * 7, none⟩ 1 = some [.int .i64 L[m - 1].v] := ld
  have lx := (zmv (hx.get hw2 gx)).1
  by_cases hc : x.v < L[m - 1].v
  ·repeat' (first | refine ya ?_ | refine yg ?_ | refine yd ?_ | (refine ye ?_; try simp only [z02]) | (refine yf ?_) | (refine yc ?_; try simp only [z01, z00]) | (refine yb ?_; simp (config := { maxSteps := 2000000 }) (disch := first | omega | rfl) only [sB, Nat.reduceEqDiff, t5, zmw (i := m) hk0 (by omega)]) | (refine yj (id := 2) [([(0, 0), (1, 0), (2, 0), (3, 0), (4, 0), (5, 0), (6, 0), (7, 0), (8, 0), (9, 0), (10, 0), (11, 0), (12, 0)], none)] ?_ ?_; kernel_rfl; simp (config := { maxSteps := 2000000 }) (disch := first | omega | rfl) only [sD, sB, Nat.reduceEqDiff, Nat.reduceAdd, reduceCtorEq, ia27, z75, ld3, t0, t3, t5, (decide_eq_true (by omega) : decide ((m : Int) > 0) = true), zmw (i := m) hk0 (by omega), ld', lx, decide_eq_true hc, isAlloc, isRead, reduceCtorEq]) | (refine yh ?_ ?_; simp (config := { maxSteps := 2000000 }) (disch := first | omega | rfl) only [sB, Nat.reduceEqDiff]; refine z03 ?_))
   exact ⟨m - 1, by omega, _, _, rfl, by omega, fun j hj hj2 => by
    by_cases e1 : j = m - 1
    ·subst e1; exact hc
    ·exact hgt j hj (by omega), (by simp only [sG, reduceCtorEq, t0] <;> rfl), (by simp only [sG, Nat.reduceEqDiff, t3] <;> rfl), (by simp only [sG, Nat.reduceEqDiff] <;> rfl), hx.bump _⟩
  ·repeat' (first | refine ya ?_ | refine yg ?_ | refine yd ?_ | (refine ye ?_) | (refine yf ?_; try simp only [sB, reduceCtorEq]) | (refine yc ?_; try simp only [z01, z00]) | (refine yj (id := 2) [([(0, 0), (1, 0), (2, 0), (3, 0), (4, 0), (5, 0), (6, 0), (7, 0), (8, 0), (9, 0), (10, 0), (11, 0), (12, 0)], none)] ?_ ?_; kernel_rfl; simp (config := { maxSteps := 2000000 }) (disch := first | omega | rfl) only [sD, sB, Nat.reduceEqDiff, Nat.reduceAdd, reduceCtorEq, ia27, z75, ld3, t0, t3, t5, (decide_eq_true (by omega) : decide ((m : Int) > 0) = true), zmw (i := m) hk0 (by omega), ld', lx, decide_eq_false hc, isAlloc, isRead, reduceCtorEq]) | (refine yh ?_ ?_; simp (config := { maxSteps := 2000000 }) (disch := first | omega | rfl) only [sB, Nat.reduceEqDiff]; refine z03 ?_) | (refine yi ?_ ?_; simp (config := { maxSteps := 2000000 }) (disch := first | omega | rfl) only [sB, Nat.reduceEqDiff]; refine z03 ?_))
   exact ⟨_, _, m, rfl, hk, hgt, fun _ _ => hc, (by simp only [sG, reduceCtorEq, t0] <;> rfl), (by simp only [sG, Nat.reduceEqDiff, t3] <;> rfl), (by simp only [sG, Nat.reduceEqDiff, t5] <;> rfl), hx.bump _⟩
 rintro st ⟨tm, H', k, rfl, hk, hgt, hle, t0, t3, t5, hx⟩
 have h3 := h2.keep hx
 have hx' := hx2.trans hx
 have lL : (L.map Bnd.seven).length = L.length := List.length_map ..
 obtain ⟨ehi, w4, hv4, f0, p2, q2, H4, f1, j2, f2, p3, q3, H5, f3, j3, f4, p5, q5, H6, f5, k1, j5⟩ := zk4 ean esl (k := k) (n0 := 13) (n1 := 6) (x := x.seven) (by rw [lL]; exact h3) (by omega) (by omega) (by have := hx'.next; omega) hx.wf rfl rfl (by omega) (by omega)
 rw [lL] at ehi f0 f2 f4 f5 k1
 have lda := (zmv (hx.get hw2 gx)).2
 have ldb := (zmv ((hx.trans j2).get hw2 gx)).2
 try simp (config := { maxSteps := 2000000 }) (disch := first | omega | rfl) only []
 (repeat refine ya ?_); refine yj [([(0, 0), (1, 0), (2, 0), (3, 0)], some 4), ([(5, 0), (6, 0)], some 7), ([(8, 0), (9, 0), (10, 0)], some 11), ([(12, 3)], none)] (by kernel_rfl) ?_; simp (config := { maxSteps := 2000000 }) (disch := first | omega | rfl) only [sV, sD, sB, Nat.reduceEqDiff, Nat.reduceAdd, Value.cells, one, reduceCtorEq, layC, zn7, ld37, zkz, isAlloc, isRead, dalloc, reduceCtorEq, Bool.and_true, t0, t3, t5, ehi, f0, f1, f2, f3, f4, f5, lda, ldb]
 refine ⟨hv4, ?_⟩
 try simp (config := { maxSteps := 2000000 }) (disch := first | omega | rfl) only []
 repeat' (first | refine ya ?_ | refine yg ?_ | refine yd ?_ | (refine ye ?_) | (refine yf ?_) | (refine yc ?_; try simp only [z01, z00]))
 refine z04 rfl (by simp only [sB, Nat.reduceEqDiff] <;> rfl) ⟨hx'.trans j5, k, _, _, hk, rfl, ?_, hgt, hle⟩
 unfold intoB
 rw [List.map_append, List.map_append, List.map_take, List.map_drop, List.map_singleton]
 exact k1
end Go.Proofs.hq
end
