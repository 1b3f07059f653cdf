import Derived.Test.YtlllbkjiadcloaaGreatDoorM3
import Derived.Test.YtlllbkjiadcloaaGreatDoorProg
import Derived.KernelRfl
/- Lemmas on the program's own code, towards the laws of this folder, part 4. Conditions: as each lemma says. -/
section
namespace Go.Proofs.hq
open Go Go.RowKit Go.Hb
variable {ok : Ok}
set_option maxRecDepth 10000
attribute [local irreducible] LX LG EL STG SOP SGO SGD SAL SRD SEF SEG SLK SCK ES
theorem z89 (b : Nat) : (b < 48 ∧ digV b = 99) ∨ (48 ≤ b ∧ b ≤ 57 ∧ digV b = b - 48) ∨ (58 ≤ b ∧ b < 65 ∧ digV b = 99) ∨ (65 ≤ b ∧ b ≤ 90 ∧ digV b = b - 55) ∨ (91 ≤ b ∧ b < 97 ∧ digV b = 99) ∨ (97 ≤ b ∧ b ≤ 122 ∧ digV b = b - 87) ∨ (123 ≤ b ∧ digV b = 99) := by
 unfold digV
 by_cases h1 : 48 ≤ b ∧ b ≤ 57
 ·simp [h1]
 ·by_cases h2 : 97 ≤ b ∧ b ≤ 122
  ·rw [if_neg h1, if_pos h2]; omega
  ·by_cases h3 : 65 ≤ b ∧ b ≤ 90
   ·rw [if_neg h1, if_neg h2, if_pos h3]; omega
   ·rw [if_neg h1, if_neg h2, if_neg h3]; omega
theorem ze4 (hk : ∀ args H, ok.K 87 args H = none) (hm : ok.testBit 87 = true) (b : Nat) (hb : b < 256) (H : Heap) :
  EvF Tryz.prog ok 87 [.int .u8 (b : Int)] H fun v H' => v = .int .i64 (digV b : Int) ∧ H' = H := by
 refine EvF.enter (hk _ _) Tryz.func87 hm rfl ?_
 rcases z89 b with ⟨h1, h⟩ | ⟨h1, h2, h⟩ | ⟨h1, h2, h⟩ | ⟨h1, h2, h⟩ | ⟨h1, h2, h⟩ | ⟨h1, h2, h⟩ | ⟨h1, h⟩
 all_goals
  repeat' (first | refine ya ?_ | refine yg ?_ | refine yd ?_ | (refine ye ?_; try simp only [sA]) | (refine yf ?_) | (refine yc ?_; try simp only [z01, z00]) | (refine yb ?_; simp (disch := first | omega | rfl) only [sB, initTm, Nat.reduceEqDiff, reduceCtorEq, z9a, decide_eq_true, decide_eq_false, z3k, z06, Bool.false_eq_true]) | (refine yh ?_ ?_; simp (disch := first | omega | rfl) only [sB, Nat.reduceEqDiff, reduceCtorEq]; refine z03 ?_) | (refine yi ?_ ?_; simp (disch := first | omega | rfl) only [sB, Nat.reduceEqDiff, reduceCtorEq]; refine z03 ?_))
  exact z04 rfl (by simp only [sB, Nat.reduceEqDiff, reduceCtorEq] <;> rfl) ⟨by simp only [Value.int.injEq, true_and]; omega, rfl⟩
theorem ze5 (hk : ∀ args H, ok.K 97 args H = none) (hm : ok.testBit 97 = true) (b : Nat) (hb : b < 256) (H : Heap) :
  EvF Tryz.prog ok 97 [.int .u8 (b : Int)] H fun v H' => v = .int .i64 (digV b : Int) ∧ H' = H := by
 refine EvF.enter (hk _ _) Tryz.func97 hm rfl ?_
 rcases z89 b with ⟨h1, h⟩ | ⟨h1, h2, h⟩ | ⟨h1, h2, h⟩ | ⟨h1, h2, h⟩ | ⟨h1, h2, h⟩ | ⟨h1, h2, h⟩ | ⟨h1, h⟩
 all_goals
  repeat' (first | refine ya ?_ | refine yg ?_ | refine yd ?_ | (refine ye ?_; try simp only [sA]) | (refine yf ?_) | (refine yc ?_; try simp only [z01, z00]) | (refine yb ?_; simp (disch := first | omega | rfl) only [sB, initTm, Nat.reduceEqDiff, reduceCtorEq, z9a, decide_eq_true, decide_eq_false, z3k, z06, Bool.false_eq_true]) | (refine yh ?_ ?_; simp (disch := first | omega | rfl) only [sB, Nat.reduceEqDiff, reduceCtorEq]; refine z03 ?_) | (refine yi ?_ ?_; simp (disch := first | omega | rfl) only [sB, Nat.reduceEqDiff, reduceCtorEq]; refine z03 ?_))
  exact z04 rfl (by simp only [sB, Nat.reduceEqDiff, reduceCtorEq] <;> rfl) ⟨by simp only [Value.int.injEq, true_and]; omega, rfl⟩
def u32V (n : Nat) : Value := .int .u32 (n : Int)
def i64V (n : Nat) : Value := .int .i64 (n : Int)
theorem z9d (hk : ∀ args H, ok.K 92 args H = none) (hm : ok.testBit 92 = true) {L : List Nat} {a : Option Addr} {c : Nat} {H : Heap} (r : RdS H (L.map u32V) a c) :
  EvF Tryz.prog ok 92 [.slice a L.length c] H fun v H' => ∃ m, v = .slice a m c ∧ m ≤ L.length ∧ (∀ x ∈ L.drop m, x = 0) ∧ (m ≠ 0 → L[m - 1]? ≠ some 0) ∧ H' = H := by
 have hL : L.length ≤ c := by simpa using r.len
 have hc : c ≤ 9223372036854775807 := r.cap
 refine EvF.enter (hk _ _) Tryz.func92 hm rfl ?_
 repeat' (first | refine ya ?_ | refine yg ?_ | refine yd ?_ | (refine ye ?_) | (refine yf ?_) | (refine yc ?_; try simp only [z01, z00]) | (refine yb ?_; simp (disch := first | omega | rfl) only [sA, initTm]))
 refine yk (fun k st => ∃ tm n, st = ⟨tm, [], H⟩ ∧ k = n ∧ n ≤ L.length ∧ (∀ x ∈ L.drop n, x = 0) ∧ tm.get 0 = some (.slice a n c)) ?_ L.length _ ?_
 ·rintro k st ⟨tm, n, rfl, rfl, hn, hz, g0⟩
  by_cases h0 : k = 0
  ·subst h0
   repeat' (first | refine ya ?_ | refine yg ?_ | refine yd ?_ | (refine ye ?_) | (refine yf ?_; try simp only [sB]) | (refine yc ?_; try simp only [z01, z00]) | (refine yb ?_; simp (disch := first | omega | rfl) only [sB, Nat.reduceEqDiff, reduceCtorEq, z56, g0, decide_eq_false, Bool.false_eq_true]) | (refine yh ?_ ?_; simp (disch := first | omega | rfl) only [sB, Nat.reduceEqDiff]; refine z03 ?_) | (refine yi ?_ ?_; simp (disch := first | omega | rfl) only [sB, Nat.reduceEqDiff]; refine z03 ?_))
   exact z04 rfl (by simp only [sG, Nat.reduceEqDiff] <;> rfl) ⟨0, rfl, by omega, hz, by simp, rfl⟩
  ·have hx : L[k - 1]? = some L[k - 1] := List.getElem?_eq_getElem (by omega)
   generalize L[k - 1] = x at hx
   obtain ⟨b, o, rfl, hl⟩ := r.get (k - 1) (u32V x) (by simp [hx])
   have e1 : ((k : Int) - 1) = ((k - 1 : Nat) : Int) := by omega
   unfold u32V at hl
   by_cases hx0 : x = 0
   ·repeat' (first | refine ya ?_ | refine yg ?_ | refine yd ?_ | (refine ye ?_; try simp only [z02]) | (refine yf ?_) | (refine yc ?_; try simp only [z01, z00]) | (refine yb ?_; simp (disch := first | omega | rfl) only [sB, Nat.reduceEqDiff, reduceCtorEq, z56, zfa, ld95, g0, e1, hl, decide_eq_true, z06, z1z, za7 zlu]) | (refine yh ?_ ?_; simp (disch := first | omega | rfl) only [sB, Nat.reduceEqDiff]; refine z03 ?_))
    refine ⟨k - 1, by omega, _, k - 1, rfl, rfl, by omega, fun y hy => ?_, (by simp only [sG, reduceCtorEq] <;> rfl)⟩
    rw [List.drop_eq_getElem_cons (by omega)] at hy
    rcases List.mem_cons.1 hy with h | h
    ·rw [h, ← Option.some.inj ((List.getElem?_eq_getElem (by omega)).symm.trans hx)] at *; omega
    ·exact hz y (by rwa [show k - 1 + 1 = k by omega] at h)
   ·repeat' (first | refine ya ?_ | refine yg ?_ | refine yd ?_ | (refine ye ?_) | (refine yf ?_; try simp only [sB]) | (refine yc ?_; try simp only [z01, z00]) | (refine yb ?_; simp (disch := first | omega | rfl) only [sB, Nat.reduceEqDiff, reduceCtorEq, z56, zfa, ld95, g0, e1, hl, decide_eq_true, z06, z0x]) | (refine yh ?_ ?_; simp (disch := first | omega | rfl) only [sB, Nat.reduceEqDiff]; refine z03 ?_) | (refine yi ?_ ?_; simp (disch := first | omega | rfl) only [sB, Nat.reduceEqDiff]; refine z03 ?_))
    exact z04 rfl (by simp only [sG, Nat.reduceEqDiff] <;> rfl) ⟨k, rfl, hn, hz, fun _ => by rw [hx]; simpa using hx0, rfl⟩
 ·exact ⟨_, L.length, rfl, rfl, Nat.le_refl _, by simp, (by simp only [sG, reduceCtorEq] <;> rfl)⟩
theorem zh7 (hk : ∀ args H, ok.K 99 args H = none) (hm : ok.testBit 99 = true) {L : List Nat} {a : Option Addr} {c : Nat} {H : Heap} (r : RdS H (L.map i64V) a c) :
  EvF Tryz.prog ok 99 [.slice a L.length c] H fun v H' => ∃ m, v = .slice a m c ∧ m ≤ L.length ∧ (∀ x ∈ L.drop m, x = 0) ∧ (m ≠ 0 → L[m - 1]? ≠ some 0) ∧ H' = H := by
 have hL : L.length ≤ c := by simpa using r.len
 have hc : c ≤ 9223372036854775807 := r.cap
 refine EvF.enter (hk _ _) Tryz.func99 hm rfl ?_
 repeat' (first | refine ya ?_ | refine yg ?_ | refine yd ?_ | (refine ye ?_) | (refine yf ?_) | (refine yc ?_; try simp only [z01, z00]) | (refine yb ?_; simp (disch := first | omega | rfl) only [sB, initTm, Nat.reduceEqDiff, reduceCtorEq, ln42]))
 refine yk (fun k st => ∃ tm n, st = ⟨tm, [], H⟩ ∧ k = n ∧ n ≤ L.length ∧ (∀ x ∈ L.drop n, x = 0) ∧ tm.get 0 = some (.slice a L.length c) ∧ tm.get 3 = some (.int .i64 (n : Nat))) ?_ L.length _ ?_
 ·rintro k st ⟨tm, n, rfl, rfl, hn, hz, g0, g3⟩
  by_cases h0 : k = 0
  ·subst h0
   repeat' (first | refine ya ?_ | refine yg ?_ | refine yd ?_ | (refine ye ?_) | (refine yf ?_; try simp only [sB]) | (refine yc ?_; try simp only [z01, z00]) | (refine yb ?_; simp (disch := first | omega | rfl) only [sB, Nat.reduceEqDiff, reduceCtorEq, g0, g3, decide_eq_false, Bool.false_eq_true, za7 sl42]) | (refine yh ?_ ?_; simp (disch := first | omega | rfl) only [sB, Nat.reduceEqDiff]; refine z03 ?_) | (refine yi ?_ ?_; simp (disch := first | omega | rfl) only [sB, Nat.reduceEqDiff]; refine z03 ?_))
   exact z04 rfl (by simp only [sG, Nat.reduceEqDiff] <;> rfl) ⟨0, rfl, by omega, hz, by simp, rfl⟩
  ·have hx : L[k - 1]? = some L[k - 1] := List.getElem?_eq_getElem (by omega)
   generalize L[k - 1] = x at hx
   obtain ⟨b, o, rfl, hl⟩ := r.get (k - 1) (i64V x) (by simp [hx])
   have e1 : ((k : Int) - 1) = ((k - 1 : Nat) : Int) := by omega
   unfold i64V at hl
   by_cases hx0 : x = 0
   ·repeat' (first | refine ya ?_ | refine yg ?_ | refine yd ?_ | (refine ye ?_; try simp only [z02]) | (refine yf ?_) | (refine yc ?_; try simp only [z01, z00]) | (refine yb ?_; simp (disch := first | omega | rfl) only [sB, Nat.reduceEqDiff, reduceCtorEq, ia42, ld3, g0, g3, e1, hl, decide_eq_true, z06, z1z]) | (refine yh ?_ ?_; simp (disch := first | omega | rfl) only [sB, Nat.reduceEqDiff]; refine z03 ?_))
    refine ⟨k - 1, by omega, _, k - 1, rfl, rfl, by omega, fun y hy => ?_, (by simp only [sG, reduceCtorEq, g0] <;> rfl), (by simp only [sG, Nat.reduceEqDiff] <;> rfl)⟩
    rw [List.drop_eq_getElem_cons (by omega)] at hy
    rcases List.mem_cons.1 hy with h | h
    ·rw [h, ← Option.some.inj ((List.getElem?_eq_getElem (by omega)).symm.trans hx)] at *; omega
    ·exact hz y (by rwa [show k - 1 + 1 = k by omega] at h)
   ·repeat' (first | refine ya ?_ | refine yg ?_ | refine yd ?_ | (refine ye ?_) | (refine yf ?_; try simp only [sB]) | (refine yc ?_; try simp only [z01, z00]) | (refine yb ?_; simp (disch := first | omega | rfl) only [sB, Nat.reduceEqDiff, reduceCtorEq, ia42, ld3, g0, g3, e1, hl, decide_eq_true, z06, z0x, za7 sl42]) | (refine yh ?_ ?_; simp (disch := first | omega | rfl) only [sB, Nat.reduceEqDiff]; refine z03 ?_) | (refine yi ?_ ?_; simp (disch := first | omega | rfl) only [sB, Nat.reduceEqDiff]; refine z03 ?_))
    exact z04 rfl (by simp only [sG, Nat.reduceEqDiff] <;> rfl) ⟨k, rfl, hn, hz, fun _ => by rw [hx]; simpa using hx0, rfl⟩
 ·exact ⟨_, L.length, rfl, rfl, Nat.le_refl _, by simp, (by simp only [sG, reduceCtorEq] <;> rfl), (by simp only [sG, Nat.reduceEqDiff, reduceCtorEq] <;> rfl)⟩
theorem znf (hk : ∀ args H, ok.K 98 args H = none) (hm : ok.testBit 98 = true) {L : List Nat} {a : Option Addr} {c k : Nat} {H : Heap} (r : RdS H (L.map i64V) a c) :
  EvF Tryz.prog ok 98 [.slice a L.length c, .int .i64 (k : Int)] H fun v H' => v = .int .i64 (L.getD k 0 : Nat) ∧ H' = H := by
 refine EvF.enter (hk _ _) Tryz.func98 hm rfl ?_
 by_cases hlt : k < L.length
 ·have hx : L[k]? = some L[k] := List.getElem?_eq_getElem hlt
  have hd : L.getD k 0 = L[k] := by rw [List.getD_eq_getElem?_getD, hx]; rfl
  rw [hd]
  generalize L[k] = x at hx
  obtain ⟨b, o, rfl, hl⟩ := r.get k (i64V x) (by simp [hx])
  unfold i64V at hl
  repeat' (first | refine ya ?_ | refine yg ?_ | refine yd ?_ | (refine ye ?_) | (refine yf ?_) | (refine yc ?_; try simp only [z01, z00]) | (refine yb ?_; simp (disch := first | omega | rfl) only [sB, initTm, Nat.reduceEqDiff, reduceCtorEq, ln42, ia42, ld3, hl, decide_eq_true]) | (refine yh ?_ ?_; simp (disch := first | omega | rfl) only [sB, Nat.reduceEqDiff, reduceCtorEq]; refine z03 ?_))
  exact z04 rfl (by simp only [sG, Nat.reduceEqDiff, reduceCtorEq] <;> rfl) ⟨rfl, rfl⟩
 ·have hd : L.getD k 0 = 0 := by rw [List.getD_eq_getElem?_getD, List.getElem?_eq_none (by omega)]; rfl
  repeat' (first | refine ya ?_ | refine yg ?_ | refine yd ?_ | (refine ye ?_; try simp only [z02]) | (refine yf ?_) | (refine yc ?_; try simp only [z01, z00]) | (refine yb ?_; simp (disch := first | omega | rfl) only [sB, initTm, Nat.reduceEqDiff, reduceCtorEq, ln42, decide_eq_true, decide_eq_false]) | (refine yh ?_ ?_; simp (disch := first | omega | rfl) only [sB, Nat.reduceEqDiff, reduceCtorEq]; refine z03 ?_) | (refine yi ?_ ?_; simp (disch := first | omega | rfl) only [sB, Nat.reduceEqDiff, reduceCtorEq]; refine z03 ?_))
  exact z04 rfl (by simp only [sB, Nat.reduceEqDiff, reduceCtorEq] <;> rfl) ⟨by rw [hd]; rfl, rfl⟩
theorem z78 {s : ByteArray} (h : ∀ i : Fin 256, byteAt s i = nbits i) {y : Nat} (hy : y < 256) : byteAt s y = nbits y := h ⟨y, hy⟩
theorem zj8 (hk : ∀ args H, ok.K 62 args H = none) (hm : ok.testBit 62 = true) {x : Nat} (hx : x < 4294967296) {H : Heap} :
  EvF Tryz.prog ok 62 [.int .u32 (x : Int)] H fun v H' => v = .int .i64 (nbits x : Int) ∧ H' = H := by
 refine EvF.enter (hk _ _) Tryz.func62 hm rfl ?_
 by_cases h1 : 65536 ≤ x
 ·have e1 : nbits x = nbits (x / 65536) + 16 := z58 (e := 16) h1
  by_cases h2 : 16777216 ≤ x
  ·have e2 : nbits (x / 65536) = nbits (x / 65536 / 256) + 8 := z58 (e := 8) (by omega)
   repeat' (first | refine ya ?_ | refine yg ?_ | refine yd ?_ | (refine ye ?_) | (refine yf ?_) | (refine yc ?_; try simp only [z01, z00]) | (refine yb ?_; simp (disch := first | omega | rfl) only [sB, initTm, Nat.reduceEqDiff, reduceCtorEq, ze3, decide_eq_true, z6x, z86, z06, z3k]) | (refine yh ?_ ?_; simp (disch := first | omega | rfl) only [sB, Nat.reduceEqDiff, reduceCtorEq]; refine z03 ?_))
   rw [z0v Tryz.underlying9 (show x / 65536 / 256 < _ from by show _ < 256; omega)]
   generalize hB : byteAt _ (x / 65536 / 256) = B
   have hB' : B = nbits (x / 65536 / 256) := by rw [← hB]; exact z78 (by decide +kernel) (by omega)
   have hl := z2t (n := x / 65536 / 256) (by omega)
   repeat' (first | refine ya ?_ | refine yg ?_ | refine yd ?_ | (refine ye ?_) | (refine yf ?_) | (refine yc ?_; try simp only [z01, z00]) | (refine z0w ?_; simp (disch := first | omega | rfl) only [sB, Nat.reduceEqDiff, reduceCtorEq, z9a, z06]))
   exact z04 rfl (by simp only [sB, Nat.reduceEqDiff, reduceCtorEq] <;> rfl) ⟨by simp only [Value.int.injEq, true_and]; omega, rfl⟩
  ·repeat' (first | refine ya ?_ | refine yg ?_ | refine yd ?_ | (refine ye ?_; try simp only [z02]) | (refine yf ?_) | (refine yc ?_; try simp only [z01, z00]) | (refine yb ?_; simp (disch := first | omega | rfl) only [sB, initTm, Nat.reduceEqDiff, reduceCtorEq, ze3, decide_eq_true, decide_eq_false, z6x, z3k]) | (refine yh ?_ ?_; simp (disch := first | omega | rfl) only [sB, Nat.reduceEqDiff, reduceCtorEq]; refine z03 ?_) | (refine yi ?_ ?_; simp (disch := first | omega | rfl) only [sB, Nat.reduceEqDiff, reduceCtorEq]; refine z03 ?_))
   rw [z0v Tryz.underlying9 (show x / 65536 < _ from by show _ < 256; omega)]
   generalize hB : byteAt _ (x / 65536) = B
   have hB' : B = nbits (x / 65536) := by rw [← hB]; exact z78 (by decide +kernel) (by omega)
   have hl := z2t (n := x / 65536) (by omega)
   repeat' (first | refine ya ?_ | refine yg ?_ | refine yd ?_ | (refine ye ?_) | (refine yf ?_) | (refine yc ?_; try simp only [z01, z00]) | (refine z0w ?_; simp (disch := first | omega | rfl) only [sB, Nat.reduceEqDiff, reduceCtorEq, z9a, z06]))
   exact z04 rfl (by simp only [sB, Nat.reduceEqDiff, reduceCtorEq] <;> rfl) ⟨by simp only [Value.int.injEq, true_and]; omega, rfl⟩
 ·by_cases h2 : 256 ≤ x
  ·have e2 : nbits x = nbits (x / 256) + 8 := z58 (e := 8) h2
   repeat' (first | refine ya ?_ | refine yg ?_ | refine yd ?_ | (refine ye ?_; try simp only [z02]) | (refine yf ?_) | (refine yc ?_; try simp only [z01, z00]) | (refine yb ?_; simp (disch := first | omega | rfl) only [sB, initTm, Nat.reduceEqDiff, reduceCtorEq, ze3, decide_eq_true, decide_eq_false, z86, z06, z3k]) | (refine yh ?_ ?_; simp (disch := first | omega | rfl) only [sB, Nat.reduceEqDiff, reduceCtorEq]; refine z03 ?_) | (refine yi ?_ ?_; simp (disch := first | omega | rfl) only [sB, Nat.reduceEqDiff, reduceCtorEq]; refine z03 ?_))
   rw [z0v Tryz.underlying9 (show x / 256 < _ from by show _ < 256; omega)]
   generalize hB : byteAt _ (x / 256) = B
   have hB' : B = nbits (x / 256) := by rw [← hB]; exact z78 (by decide +kernel) (by omega)
   have hl := z2t (n := x / 256) (by omega)
   repeat' (first | refine ya ?_ | refine yg ?_ | refine yd ?_ | (refine ye ?_) | (refine yf ?_) | (refine yc ?_; try simp only [z01, z00]) | (refine z0w ?_; simp (disch := first | omega | rfl) only [sB, Nat.reduceEqDiff, reduceCtorEq, z9a, z06]))
   exact z04 rfl (by simp only [sB, Nat.reduceEqDiff, reduceCtorEq] <;> rfl) ⟨by simp only [Value.int.injEq, true_and]; omega, rfl⟩
  ·repeat' (first | refine ya ?_ | refine yg ?_ | refine yd ?_ | (refine ye ?_; try simp only [z02]) | (refine yf ?_) | (refine yc ?_; try simp only [z01, z00]) | (refine yb ?_; simp (disch := first | omega | rfl) only [sB, initTm, Nat.reduceEqDiff, reduceCtorEq, ze3, decide_eq_false, z3k]) | (refine yh ?_ ?_; simp (disch := first | omega | rfl) only [sB, Nat.reduceEqDiff, reduceCtorEq]; refine z03 ?_) | (refine yi ?_ ?_; simp (disch := first | omega | rfl) only [sB, Nat.reduceEqDiff, reduceCtorEq]; refine z03 ?_))
   rw [z0v Tryz.underlying9 (show x < _ from by show _ < 256; omega)]
   generalize hB : byteAt _ (x) = B
   have hB' : B = nbits (x) := by rw [← hB]; exact z78 (by decide +kernel) (by omega)
   have hl := z2t (n := x) (by omega)
   repeat' (first | refine ya ?_ | refine yg ?_ | refine yd ?_ | (refine ye ?_) | (refine yf ?_) | (refine yc ?_; try simp only [z01, z00]) | (refine z0w ?_; simp (disch := first | omega | rfl) only [sB, Nat.reduceEqDiff, reduceCtorEq, z9a, z06]))
   exact z04 rfl (by simp only [sB, Nat.reduceEqDiff, reduceCtorEq] <;> rfl) ⟨by simp only [Value.int.injEq, true_and]; omega, rfl⟩
theorem zng (a : Nat) : (a : Int).tdiv 10 = ((a / 10 : Nat) : Int) := rfl
theorem znh (a : Nat) : (a : Int).tmod 10 = ((a % 10 : Nat) : Int) := rfl
theorem zni {r x : Nat} (hr : r < 10) (hx : x < 4294967296) : kOr .u64 (IntKind.u64.wrap ((r : Int) * 2 ^ (min 32 IntKind.u64.bits))) (x : Int) = ((r * 4294967296 + x : Nat) : Int) := by
 have e1 : ((r : Int) * 2 ^ (min 32 IntKind.u64.bits)) = ((r * 4294967296 : Nat) : Int) := by
  show (r : Int) * 2 ^ 32 = _
  omega
 rw [e1, wrap_u64 (by omega) (by omega)]
 unfold kOr
 show IntKind.u64.wrap ((BitVec.ofInt 64 ((r * 4294967296 : Nat) : Int) ||| BitVec.ofInt 64 (x : Int)).toNat : Int) = _
 rw [BitVec.ofInt_natCast, BitVec.ofInt_natCast, BitVec.toNat_or, BitVec.toNat_ofNat, BitVec.toNat_ofNat, Nat.mod_eq_of_lt (by omega), Nat.mod_eq_of_lt (by omega)]
 have e2 : r * 4294967296 ||| x = r * 4294967296 + x := by
  have := Nat.two_pow_add_eq_or_of_lt (i := 32) (b := x) hx r
  rw [Nat.mul_comm] at this
  exact this.symm
 rw [e2, wrap_u64 (by omega) (by omega)]
theorem zj9 (hk : ∀ args H, ok.K 93 args H = none) (hm : ok.testBit 93 = true) {r x : Nat} (hr : r < 10) (hx : x < 4294967296) {H : Heap} (hw : H.wf) :
  EvF Tryz.prog ok 93 [.int .u32 (r : Int), .int .u32 (x : Int), .int .u32 10] H fun v H' => v = .tuple ⟨[.int .u32 ((r * 4294967296 + x) / 10 : Nat), .int .u32 ((r * 4294967296 + x) % 10 : Nat)]⟩ ∧ HX H H' := by
 refine EvF.enter (hk _ _) Tryz.func93 hm rfl ?_
 repeat' (first | refine ya ?_ | refine yg ?_ | refine yd ?_ | (refine ye ?_; try simp only [z02]) | (refine yf ?_) | (refine yc ?_; try simp only [z01, z00]) | (refine yb ?_; simp (disch := first | omega | rfl) only [sB, initTm, Nat.reduceEqDiff, Nat.reduceAdd, reduceCtorEq, Int.reduceToNat, zcf, decide_eq_false, z35, bShl, bOr, wrap_u64, zni hr hx]) | (refine yj [([(0, 0), (1, 0), (2, 0), (3, 0), (4, 0), (5, 0), (6, 0), (7, 0), (8, 0), (9, 0), (10, 0), (11, 0)], none)] ?_ ?_; kernel_rfl; simp (disch := first | omega | rfl) only [sD, sB, Nat.reduceEqDiff, Nat.reduceAdd, reduceCtorEq, zcf, zcg, wrap_u64, bQuo, bRem, wrap_u32, zng, znh, isAlloc, isRead, reduceCtorEq]) | (refine yh ?_ ?_; simp (disch := first | omega | rfl) only [sB, Nat.reduceEqDiff, reduceCtorEq]; refine z03 ?_) | (refine yi ?_ ?_; simp (disch := first | omega | rfl) only [sB, Nat.reduceEqDiff, reduceCtorEq]; refine z03 ?_))
 exact z0j rfl (by simp only [sG, Nat.reduceEqDiff, reduceCtorEq] <;> rfl) (by simp only [sG, Nat.reduceEqDiff, reduceCtorEq] <;> rfl) ⟨rfl, (HX.refl hw).bump _⟩
end Go.Proofs.hq
end

section
namespace Go.Proofs.hq
open Go Go.RowKit Go.Hb
def okT : Ok := okLaw (2 ^ 133 - 1) 4 67
end Go.Proofs.hq
end

section
namespace Go.Proofs.hq
open Go Go.RowKit Go.Hb
variable {ok : Ok}
set_option maxRecDepth 10000
attribute [local irreducible] LX LG EL STG SOP SGO SGD SAL SRD SEF SEG SLK SCK ES
theorem z3w {B m : Nat} {L : List Nat} (hz : ∀ x ∈ L.drop m, x = 0) : valB B (L.take m) = valB B L := zh2 hz
theorem zch {L : List Nat} {m x : Nat} (hL : ∀ y ∈ L, y < 4294967296) (hm : m ≤ L.length) (hz : ∀ y ∈ L.drop m, y = 0) (h0 : m ≠ 0) (hx : L[m - 1]? = some x) (hx0 : x ≠ 0) :
  nbits (valB 4294967296 L) = 32 * (m - 1) + nbits x := by
 rw [← z3w hz]
 have e : L.take m = L.take (m - 1) ++ [x] := by
  have h1 : m = (m - 1) + 1 := by omega
  rw [h1, List.take_add_one]
  simp only [Nat.add_sub_cancel, hx, Option.toList_some]
 rw [e]
 have := z77 (l := L.take (m - 1)) (x := x) (e := 32) (fun y hy => hL y (List.mem_of_mem_take hy)) hx0
 rw [List.length_take, Nat.min_eq_left (by omega)] at this
 exact this
theorem zh8 {L : List Nat} {a : Option Addr} {c : Nat} {H : Heap} (r : RdS H (L.map u32V) a c) (hL : ∀ y ∈ L, y < 4294967296) (hlen : L.length ≤ 1048576) :
  EvF Tryz.prog okT 88 [.slice a L.length c] H fun v H' => v = .int .i64 (nbits (valB 4294967296 L) : Nat) ∧ H' = H := by
 have hLc : L.length ≤ c := by simpa using r.len
 have hc : c ≤ 9223372036854775807 := r.cap
 refine EvF.enter rfl Tryz.func88 (by decide) rfl ?_
 repeat' (first | refine ya ?_ | refine yg ?_ | refine yd ?_ | (refine ye ?_) | (refine yf ?_) | (refine yc ?_; try simp only [z01, z00]) | (refine yb ?_; simp (disch := first | omega | rfl) only [sB, initTm, Nat.reduceEqDiff, reduceCtorEq, cl92]))
 refine (z9d (fun _ _ => rfl) (by decide) r).mono ?_
 rintro v H' ⟨m, rfl, hm, hz, hn0, rfl⟩
 by_cases h0 : m = 0
 ·subst h0
  repeat' (first | refine ya ?_ | refine yg ?_ | refine yd ?_ | (refine ye ?_) | (refine yf ?_) | (refine yc ?_; try simp only [z01, z00]) | (refine yb ?_; simp (disch := first | omega | rfl) only [sB, Nat.reduceEqDiff, reduceCtorEq, z56, z1z]) | (refine yh ?_ ?_; simp (disch := first | omega | rfl) only [sB, Nat.reduceEqDiff, reduceCtorEq]; refine z03 ?_))
  refine z04 rfl (by simp only [sB, Nat.reduceEqDiff, reduceCtorEq] <;> rfl) ⟨?_, rfl⟩
  rw [z5l _ L (by simpa using hz)]; rfl
 ·have hx : L[m - 1]? = some L[m - 1] := List.getElem?_eq_getElem (by omega)
  have hx0 := hn0 h0
  have hxl := hL L[m - 1] (List.getElem_mem _)
  generalize L[m - 1] = x at hx hxl
  rw [hx] at hx0
  have hx0' : x ≠ 0 := fun h => hx0 (by rw [h])
  have hnb := zch hL hm hz h0 hx hx0'
  have hle := z2t (n := x) (by omega)
  obtain ⟨b, o, rfl, hl⟩ := r.get (m - 1) (u32V x) (by simp [hx])
  unfold u32V at hl
  have e1 : ((m : Int) - 1) = ((m - 1 : Nat) : Int) := by omega
  repeat' (first | refine ya ?_ | refine yg ?_ | refine yd ?_ | (refine ye ?_; try simp only [z02]) | (refine yf ?_) | (refine yc ?_; try simp only [z01, z00]) | (refine yb ?_; simp (disch := first | omega | rfl) only [sB, Nat.reduceEqDiff, reduceCtorEq, z56, zfa, ld95, cl62, z0x, z06, e1, hl]) | (refine yh ?_ ?_; simp (disch := first | omega | rfl) only [sB, Nat.reduceEqDiff, reduceCtorEq]; refine z03 ?_) | (refine yi ?_ ?_; simp (disch := first | omega | rfl) only [sB, Nat.reduceEqDiff, reduceCtorEq]; refine z03 ?_))
  refine (zj8 (fun _ _ => rfl) (by decide) (show x < 4294967296 from hxl)).mono ?_
  rintro v H' ⟨rfl, rfl⟩
  repeat' (first | refine ya ?_ | refine yg ?_ | refine yd ?_ | (refine ye ?_) | (refine yf ?_) | (refine yc ?_; try simp only [z01, z00]) | (refine z0w ?_; simp (disch := first | omega | rfl) only [sB, Nat.reduceEqDiff, reduceCtorEq, z06]))
  refine z04 rfl (by simp only [sB, Nat.reduceEqDiff, reduceCtorEq] <;> rfl) ⟨?_, rfl⟩
  simp only [Value.int.injEq, true_and]
  omega
theorem zlw {L : List Nat} {neg : Bool} {a : Option Addr} {b c : Nat} {H : Heap} (r : RdS H (L.map u32V) a c) (hL : ∀ y ∈ L, y < 4294967296) (hlen : L.length ≤ 1048576) (hw : H.wf) (hb : b < H.next)
  (hl : H.load ⟨b, 0, none⟩ 2 = some [.bool neg, .slice a L.length c]) :
  EvF Tryz.prog okT 90 [.slice (some ⟨b, 0, none⟩) 1 1] H fun v H' => v = .bool (decide (4096 < nbits (valB 4294967296 L))) ∧ HX H H' := by
 refine EvF.enter rfl Tryz.func90 (by decide) rfl ?_
 repeat' (first | refine ya ?_ | refine yg ?_ | refine yd ?_ | (refine ye ?_) | (refine yf ?_) | (refine yc ?_; try simp only [z01, z00]) | (refine yb ?_; simp (disch := first | omega | rfl) only [sB, initTm, Nat.reduceEqDiff, reduceCtorEq, zo2]))
 refine yk (fun k st => ∃ tm H', st = ⟨tm, [], H'⟩ ∧ HX H H' ∧ tm.get 5 = some (.slice (some ⟨b, 0, none⟩) 1 1) ∧ tm.get 6 = some (.int .i64 1) ∧ ((k = 1 ∧ tm.get 7 = some (.int .i64 0)) ∨ (k = 0 ∧ tm.get 7 = some (.int .i64 1) ∧ ¬ 4096 < nbits (valB 4294967296 L)))) ?_ 1 _ ?_
 ·rintro k st ⟨tm, H', rfl, hx, g5, g6, ⟨rfl, g7⟩ | ⟨rfl, g7, hn⟩⟩
  ·have hl' := hx.load hw hl
   have hx2 := ((hx.new (some (Blk.row [.bool false, .slice none 0 0] 112))).put (i := H'.next) hx.next (Nat.lt_succ_self _) (some (.row [.bool neg, .slice a L.length c] 112)))
   repeat' (first | refine ya ?_ | refine yg ?_ | refine yd ?_ | (refine ye ?_; try simp only [z02]) | (refine yf ?_) | (refine yc ?_; try simp only [z01, z00]) | (refine yb ?_; simp (disch := first | omega | rfl) only [sB, dAlloc, Nat.reduceEqDiff, Nat.reduceAdd, one, cutC, Int.reduceToNat, z7p, zgx, z7o, zgy, zna, cl88, g5, g6, g7, hl', decide_eq_true, zo3, Nat.zero_mul]) | (refine yh ?_ ?_; simp (disch := first | omega | rfl) only [sB]; refine z03 ?_))
   refine (zh8 (r.keep hx2 hw) hL hlen).mono ?_
   rintro v H2 ⟨rfl, rfl⟩
   by_cases hbig : 4096 < nbits (valB 4294967296 L)
   ·repeat' (first | refine ya ?_ | refine yg ?_ | refine yd ?_ | (refine ye ?_) | (refine yf ?_) | (refine yc ?_; try simp only [z01, z00]) | (refine yb ?_; simp (disch := first | omega | rfl) only [sA]) | (refine z0w ?_; simp (disch := first | omega | rfl) only [sA, decide_eq_true]) | (refine yh ?_ ?_; simp (disch := first | omega | rfl) only [sB, Nat.reduceEqDiff]; refine z03 ?_))
    exact z04 rfl (by simp only [sG, Nat.reduceEqDiff] <;> rfl) ⟨rfl, hx2⟩
   ·repeat' (first | refine ya ?_ | refine yg ?_ | refine yd ?_ | (refine ye ?_; try simp only [sA]) | (refine yf ?_) | (refine yc ?_; try simp only [z01, z00]) | (refine yb ?_; simp (disch := first | omega | rfl) only [sB, Nat.reduceEqDiff, g7, z06]) | (refine z0w ?_; simp (disch := first | omega | rfl) only [sA, decide_eq_false]) | (refine yh ?_ ?_; simp (disch := first | omega | rfl) only [sB, Nat.reduceEqDiff]; refine z03 ?_) | (refine yi ?_ ?_; simp (disch := first | omega | rfl) only [sB, Nat.reduceEqDiff]; refine z03 ?_))
    exact ⟨0, by omega, _, _, rfl, hx2, (by simp only [sG, Nat.reduceEqDiff, g5] <;> rfl), (by simp only [sG, Nat.reduceEqDiff, g6] <;> rfl), .inr ⟨rfl, (by simp only [sB, Nat.reduceEqDiff] <;> rfl), hbig⟩⟩
  ·repeat' (first | refine ya ?_ | refine yg ?_ | refine yd ?_ | (refine ye ?_) | (refine yf ?_; try simp only [sB]) | (refine yc ?_; try simp only [z01, z00]) | (refine yb ?_; simp (disch := first | omega | rfl) only [sA, g6, g7, decide_eq_false]) | (refine yh ?_ ?_; simp (disch := first | omega | rfl) only [sB]; refine z03 ?_) | (refine yi ?_ ?_; simp (disch := first | omega | rfl) only [sB]; refine z03 ?_))
   exact z04 rfl (by simp only [sG, Nat.reduceEqDiff] <;> rfl) ⟨rfl, hx⟩
 ·exact ⟨_, _, rfl, HX.refl hw, (by simp only [sG, Nat.reduceEqDiff, reduceCtorEq] <;> rfl), (by simp only [sB, Nat.reduceEqDiff, reduceCtorEq] <;> rfl), .inl ⟨rfl, (by simp only [sG, Nat.reduceEqDiff, reduceCtorEq] <;> rfl)⟩⟩
theorem znj {L : List Nat} {a : Option Addr} {c : Nat} {H : Heap} (r : RdS H (L.map u32V) a c) (hlen : L.length ≤ 1048576) (hw : H.wf) :
  EvF Tryz.prog okT 91 [.slice a L.length c] H fun v H' => ∃ b c', OwnS H' 95 1 H.next (L.map fun x => [u32V x]) b c' ∧ v = .slice (some ⟨b, 0, none⟩) L.length c' ∧ HX H H' := by
 have hmost : L.length ≤ most := hlen
 have hm0 : 0 ≤ most := Nat.zero_le _
 have hmax : L.length ≤ maxLen := Nat.le_trans hlen (by simp [maxLen])
 refine EvF.enter rfl Tryz.func91 (by decide) rfl ?_
 by_cases h0 : L.length = 0
 ·have hL0 : L = [] := List.length_eq_zero_iff.1 h0
  subst hL0
  repeat' (first | refine ya ?_ | refine yg ?_ | refine yd ?_ | (refine ye ?_) | (refine yf ?_) | (refine yc ?_; try simp only [z01, z00]) | (refine yb ?_; simp (disch := first | omega | rfl) only [sB, initTm, Nat.reduceEqDiff, reduceCtorEq, z56, z95 zne hm0, z96, List.replicate_zero, zj3 zlu]))
  refine z04 rfl (by simp only [sG, Nat.reduceEqDiff, reduceCtorEq] <;> rfl) ⟨H.next, 0, ?_, rfl, (HX.refl hw).new _⟩
  exact OwnS.ones (vs := []) z0o (Nat.le_refl _) (Nat.lt_succ_self _) (Nat.le_refl _) (Nat.zero_le _) rfl
 ·have hx := (HX.refl hw).new (some (.row (List.replicate L.length (Value.int .u32 0)) 95))
  obtain ⟨b, o, rfl, hl⟩ := (r.keep hx hw).all (by simpa using h0)
  rw [List.length_map] at hl
  have hone : (L.map u32V).all one = true := by simp [u32V, one]
  have hcp := zlq (c := L.length) (c' := c) (o := 0) (b := H.next) zlu (Nat.pos_of_ne_zero h0) (by rw [Nat.mul_one]; exact hl) hone z0o (by simp)
  have hsp : Hb.splice (List.replicate L.length (Value.int .u32 0)) 0 (L.map u32V) = L.map u32V := by rw [z3h]; simp
  rw [hsp] at hcp
  repeat' (first | refine ya ?_ | refine yg ?_ | refine yd ?_ | (refine ye ?_) | (refine yf ?_) | (refine yc ?_; try simp only [z01, z00]) | (refine yb ?_; simp (disch := first | omega | rfl) only [sB, initTm, Nat.reduceEqDiff, reduceCtorEq, z56, z95 zne hmost, z96, hcp]))
  refine z04 rfl (by simp only [sG, Nat.reduceEqDiff, reduceCtorEq] <;> rfl) ⟨H.next, L.length, ?_, rfl, hx.put (Nat.le_refl _) (Nat.lt_succ_self _) _⟩
  have := OwnS.ones (H := (H.new (some (.row (List.replicate L.length (Value.int .u32 0)) 95))).put H.next (some (.row (L.map u32V) 95))) (base := H.next) (c := L.length) z6s (Nat.le_refl _) (Nat.lt_succ_self _) (by simp) hmax hone
  rw [List.map_map] at this
  exact this
theorem zlx {L : List Nat} {neg : Bool} {a : Option Addr} {c : Nat} {H : Heap} (r : RdS H (L.map u32V) a c) (hw : H.wf) :
  EvF Tryz.prog okT 89 [.bool neg, .slice a L.length c] H fun v H' => ∃ m, v = .agg ⟨[.bool (neg && decide (0 < m)), .slice a m c]⟩ ∧ m ≤ L.length ∧ (∀ x ∈ L.drop m, x = 0) ∧ (m ≠ 0 → L[m - 1]? ≠ some 0) ∧ HX H H' := by
 refine EvF.enter rfl Tryz.func89 (by decide) rfl ?_
 repeat' (first | refine ya ?_ | refine yg ?_ | refine yd ?_ | (refine ye ?_) | (refine yf ?_) | (refine yc ?_; try simp only [z01, z00]) | (refine yb ?_; simp (disch := first | omega | rfl) only [sB, initTm, dAlloc, Nat.reduceEqDiff, reduceCtorEq, zgx, cl92]))
 have hx := (HX.refl hw).new (some (.row [.bool false, .slice none 0 0] 112))
 refine (z9d (fun _ _ => rfl) (by decide) (r.keep hx hw)).mono ?_
 rintro v H' ⟨m, rfl, hm, hz, hn0, rfl⟩
 cases neg with
 | false =>
  repeat' (first | refine ya ?_ | refine yg ?_ | refine yd ?_ | (refine ye ?_) | (refine yf ?_) | (refine yc ?_; try simp only [z01, z00]) | (refine yb ?_; simp (disch := first | omega | rfl) only [sB, Nat.reduceEqDiff, Nat.reduceAdd, Value.cells, one, reduceCtorEq, Nat.reduceLeDiff, layC, zf9, z7o]))
  exact z1n rfl (by simp only [sB, Nat.reduceEqDiff, reduceCtorEq] <;> rfl) (by simp only [sB, Nat.reduceAdd, cutC, z7p] <;> rfl) ⟨m, rfl, hm, hz, hn0, hx.put (Nat.le_refl _) (Nat.lt_succ_self _) _⟩
 | true =>
  by_cases h0 : 0 < m
  ·repeat' (first | refine ya ?_ | refine yg ?_ | refine yd ?_ | (refine ye ?_) | (refine yf ?_) | (refine yc ?_; try simp only [z01, z00]) | (refine yb ?_; simp (disch := first | omega | rfl) only [sB, Nat.reduceEqDiff, Nat.reduceAdd, Value.cells, one, reduceCtorEq, Nat.reduceLeDiff, layC, z56, zf9, z7o, decide_eq_true]))
   exact z1n rfl (by simp only [sB, Nat.reduceEqDiff, reduceCtorEq] <;> rfl) (by simp only [sB, Nat.reduceAdd, cutC, z7p] <;> rfl) ⟨m, by first | rfl | simp [h0], hm, hz, hn0, hx.put (Nat.le_refl _) (Nat.lt_succ_self _) _⟩
  ·repeat' (first | refine ya ?_ | refine yg ?_ | refine yd ?_ | (refine ye ?_) | (refine yf ?_) | (refine yc ?_; try simp only [z01, z00]) | (refine yb ?_; simp (disch := first | omega | rfl) only [sB, Nat.reduceEqDiff, Nat.reduceAdd, Value.cells, one, reduceCtorEq, Nat.reduceLeDiff, layC, z56, zf9, z7o, decide_eq_false]))
   exact z1n rfl (by simp only [sB, Nat.reduceEqDiff, reduceCtorEq] <;> rfl) (by simp only [sB, Nat.reduceAdd, cutC, z7p] <;> rfl) ⟨m, by first | rfl | simp [h0], hm, hz, hn0, hx.put (Nat.le_refl _) (Nat.lt_succ_self _) _⟩
theorem zja {L : List Nat} {neg : Bool} {a : Option Addr} {c : Nat} {H : Heap} (r : RdS H (L.map i64V) a c) (hw : H.wf) :
  EvF Tryz.prog okT 100 [.bool neg, .slice a L.length c] H fun v H' => ∃ m, v = .agg ⟨[.bool (neg && decide (0 < m)), .slice a m c]⟩ ∧ m ≤ L.length ∧ (∀ x ∈ L.drop m, x = 0) ∧ (m ≠ 0 → L[m - 1]? ≠ some 0) ∧ HX H H' := by
 refine EvF.enter rfl Tryz.func100 (by decide) rfl ?_
 repeat' (first | refine ya ?_ | refine yg ?_ | refine yd ?_ | (refine ye ?_) | (refine yf ?_) | (refine yc ?_; try simp only [z01, z00]) | (refine yb ?_; simp (disch := first | omega | rfl) only [sB, initTm, dAlloc, Nat.reduceEqDiff, reduceCtorEq, zj6, cl99]))
 have hx := (HX.refl hw).new (some (.row [.bool false, .slice none 0 0] 132))
 refine (zh7 (fun _ _ => rfl) (by decide) (r.keep hx hw)).mono ?_
 rintro v H' ⟨m, rfl, hm, hz, hn0, rfl⟩
 cases neg with
 | false =>
  repeat' (first | refine ya ?_ | refine yg ?_ | refine yd ?_ | (refine ye ?_) | (refine yf ?_) | (refine yc ?_; try simp only [z01, z00]) | (refine yb ?_; simp (disch := first | omega | rfl) only [sB, Nat.reduceEqDiff, Nat.reduceAdd, Value.cells, one, reduceCtorEq, Nat.reduceLeDiff, layC, zfb, z9b]))
  exact z1n rfl (by simp only [sB, Nat.reduceEqDiff, reduceCtorEq] <;> rfl) (by simp only [sB, Nat.reduceAdd, cutC, zam] <;> rfl) ⟨m, rfl, hm, hz, hn0, hx.put (Nat.le_refl _) (Nat.lt_succ_self _) _⟩
 | true =>
  by_cases h0 : 0 < m
  ·repeat' (first | refine ya ?_ | refine yg ?_ | refine yd ?_ | (refine ye ?_) | (refine yf ?_) | (refine yc ?_; try simp only [z01, z00]) | (refine yb ?_; simp (disch := first | omega | rfl) only [sB, Nat.reduceEqDiff, Nat.reduceAdd, Value.cells, one, reduceCtorEq, Nat.reduceLeDiff, layC, ln42, zfb, z9b, decide_eq_true]))
   exact z1n rfl (by simp only [sB, Nat.reduceEqDiff, reduceCtorEq] <;> rfl) (by simp only [sB, Nat.reduceAdd, cutC, zam] <;> rfl) ⟨m, by first | rfl | simp [h0], hm, hz, hn0, hx.put (Nat.le_refl _) (Nat.lt_succ_self _) _⟩
  ·repeat' (first | refine ya ?_ | refine yg ?_ | refine yd ?_ | (refine ye ?_) | (refine yf ?_) | (refine yc ?_; try simp only [z01, z00]) | (refine yb ?_; simp (disch := first | omega | rfl) only [sB, Nat.reduceEqDiff, Nat.reduceAdd, Value.cells, one, reduceCtorEq, Nat.reduceLeDiff, layC, ln42, zfb, z9b, decide_eq_false]))
   exact z1n rfl (by simp only [sB, Nat.reduceEqDiff, reduceCtorEq] <;> rfl) (by simp only [sB, Nat.reduceAdd, cutC, zam] <;> rfl) ⟨m, by first | rfl | simp [h0], hm, hz, hn0, hx.put (Nat.le_refl _) (Nat.lt_succ_self _) _⟩
def bl (s : ByteArray) : List Nat := s.data.toList.map UInt8.toNat
theorem z20 (s : ByteArray) : (bl s).length = s.size := by simp [bl]
theorem z8a (s : ByteArray) {i : Nat} (h : i < s.size) : (bl s)[i]? = some (byteAt s i) := by
 have h' : i < s.data.toList.length := by simpa using h
 unfold bl byteAt
 rw [List.getElem?_map, List.getElem?_eq_getElem h', List.getD_eq_getElem?_getD, List.getElem?_eq_getElem h']
 rfl
theorem z8b (s : ByteArray) (l m : Nat) : bl (s.extract l m) = ((bl s).take m).drop l := by
 unfold bl
 rw [ByteArray.data_extract, Array.toList_extract, List.extract_eq_take_drop, List.map_take, List.map_drop, ← List.drop_take]
def negS (l : List Nat) : Bool := l.head? == some 45
def bodyS (l : List Nat) : List Nat := if negS l then l.tail else l
def parseD (l : List Nat) : Option Nat := if bodyS l = [] then none else if (bodyS l).any (fun x => 10 ≤ digV x) then none else numD ((bodyS l).map digV) 0
def limbsOK (L : List Nat) : Prop := (∀ y ∈ L, y < 4294967296) ∧ L.getLast? ≠ some 0
theorem zao {L : List Nat} (h : limbsOK L) (hb : ¬ 4096 < nbits (valB 4294967296 L)) : L.length ≤ 128 := by
 rcases List.eq_nil_or_concat L with rfl | ⟨l, x, rfl⟩
 ·simp
 ·rw [List.concat_eq_append] at *
  have hx : x ≠ 0 := by have := h.2; simpa using this
  have := z77 (l := l) (x := x) (e := 32) (fun y hy => h.1 y (by simp [hy])) hx
  have h0 : 1 ≤ nbits x := by unfold nbits; rw [if_neg hx]; omega
  rw [show (2 : Nat) ^ 32 = 4294967296 from rfl] at this
  rw [this] at hb
  simp
  omega
def ParseT (H' : Heap) (V : Nat → Value) (B : Nat) (l : List Nat) (v : Value) : Prop :=
 (parseD l = none ∧ ∃ e : Int, e ≠ 0 ∧ v = .tuple ⟨[.agg ⟨[.bool false, .slice none 0 0]⟩, .int .i64 e]⟩) ∨
 ∃ n L a c, parseD l = some n ∧ v = .tuple ⟨[.agg ⟨[.bool (negS l && decide (0 < L.length)), .slice a L.length c]⟩, .int .i64 0]⟩ ∧ RdS H' (L.map V) a c ∧ (∀ y ∈ L, y < B) ∧ valB B L = n ∧ L.getLast? ≠ some 0 ∧ L.length ≤ 4096
set_option maxHeartbeats 2000000 in
theorem zjb {s : ByteArray} (hs : s.size ≤ 9223372036854775807) {H : Heap} (hw : H.wf) :
  EvF Tryz.prog okT 80 [.string s, .int .i64 10] H fun v H' => ParseT H' u32V 4294967296 (bl s) v ∧ HX H H' := by
 refine EvF.enter rfl Tryz.func80 (by decide) rfl ?_
 (repeat refine ya ?_); refine yb ?_; simp (disch := first | omega | rfl) only [sA, initTm, dAlloc, zgx]
 have hx0 := (HX.refl hw).new (some (.row [.bool false, .slice none 0 0] 112))
 obtain ⟨H1, hH1⟩ : ∃ H1, H1 = H.new (some (.row [.bool false, .slice none 0 0] 112)) := ⟨_, rfl⟩
 have hn1 : H1.next = H.next + 1 := by rw [hH1]; rfl
 have hg1 : H1.get H.next = some (.row [.bool false, .slice none 0 0] 112) := by rw [hH1]; exact z0o
 rw [← hH1] at hx0 ⊢
 (repeat refine ya ?_); refine yb ?_; simp (disch := first | omega | rfl) only [sB, Nat.reduceEqDiff, reduceCtorEq, decide_eq_false, Bool.false_eq_true]
 (repeat refine ya ?_); refine yi (by simp (disch := first | omega | rfl) only [sB, Nat.reduceEqDiff, reduceCtorEq]) ?_; (try refine ye ?_); (try simp only [z02, z09])
 (repeat refine ya ?_)
 refine EvC.join (fun st => ∃ tm, st = ⟨tm, [], H1⟩ ∧ tm.get 0 = some (.string s) ∧ tm.get 1 = some (.int .i64 10) ∧ tm.get 4 = some (.pointer (some ⟨H.next, 0, none⟩)) ∧ tm.get 6 = some (.bool (negS (bl s)))) ?_ ?_
 ·by_cases h0 : s.size = 0
  ·have hb : negS (bl s) = false := by
    have : bl s = [] := List.length_eq_zero_iff.1 (by rw [z20]; exact h0)
    rw [this]; rfl
   rw [hb]
   (repeat refine ya ?_); refine yb ?_; simp (disch := first | omega | rfl) only [sB, Nat.reduceEqDiff, reduceCtorEq, ln9, decide_eq_false, Bool.false_eq_true]
   exact ⟨_, rfl, (by simp only [sG, reduceCtorEq] <;> rfl), (by simp only [sG, Nat.reduceEqDiff, reduceCtorEq] <;> rfl), (by simp only [sG, Nat.reduceEqDiff, reduceCtorEq] <;> rfl), (by simp only [sG, Nat.reduceEqDiff, reduceCtorEq] <;> rfl)⟩
  ·have hb : negS (bl s) = (byteAt s 0 == 45) := by
    have := z8a s (i := 0) (by omega)
    unfold negS
    rw [List.head?_eq_getElem?, this]; simp
   rw [hb]
   by_cases h45 : byteAt s 0 = 45
   ·(repeat refine ya ?_); refine yb ?_; simp (disch := first | omega | rfl) only [sB, Nat.reduceEqDiff, reduceCtorEq, Int.reduceToNat, ln9, decide_eq_true, iy9, z1z]
    exact ⟨_, rfl, (by simp only [sG, reduceCtorEq] <;> rfl), (by simp only [sG, Nat.reduceEqDiff, reduceCtorEq] <;> rfl), (by simp only [sG, Nat.reduceEqDiff, reduceCtorEq] <;> rfl), by simp only [sB, Nat.reduceEqDiff, reduceCtorEq]; first | rfl | simp [h45]⟩
   ·(repeat refine ya ?_); refine yb ?_; simp (disch := first | omega | rfl) only [sB, Nat.reduceEqDiff, reduceCtorEq, Int.reduceToNat, ln9, decide_eq_true, iy9, z0x]
    exact ⟨_, rfl, (by simp only [sG, reduceCtorEq] <;> rfl), (by simp only [sG, Nat.reduceEqDiff, reduceCtorEq] <;> rfl), (by simp only [sG, Nat.reduceEqDiff, reduceCtorEq] <;> rfl), by simp only [sB, Nat.reduceEqDiff, reduceCtorEq]; first | rfl | simp [h45]⟩
 rintro st ⟨tm, rfl, g0, g1, g4, g6⟩
 try simp (disch := first | omega | rfl) only [z02]
 (repeat refine ya ?_); refine yb ?_; simp (disch := first | omega | rfl) only [sA, g6]
 (repeat refine ya ?_)
 have hbody : bodyS (bl s) = if negS (bl s) then (bl s).tail else bl s := rfl
 refine EvC.join (fun st => ∃ tm s', st = ⟨tm, [], H1⟩ ∧ bl s' = bodyS (bl s) ∧ s'.size ≤ 9223372036854775807 ∧ tm.get 0 = some (.string s') ∧ tm.get 1 = some (.int .i64 10) ∧ tm.get 4 = some (.pointer (some ⟨H.next, 0, none⟩)) ∧ tm.get 6 = some (.bool (negS (bl s)))) ?_ ?_
 ·cases hneg : negS (bl s) with
  | true =>
   have h1 : 1 ≤ s.size := by
    rw [← z20]
    cases hb : bl s with
    | nil => rw [hb] at hneg; simp [negS] at hneg
    | cons x l => simp
   have hsl : dSl Tryz.prog 9 (.string s) (some (.int .i64 1)) none none H1 = some (.val (.string (s.extract 1 s.size)) H1) := z83 (l := 1) us9 h1
   rw [hneg] at g6 hbody
   refine yh (by simp only [sB] <;> rfl) ?_
   (repeat refine ya ?_); refine yb ?_; simp (disch := first | omega | rfl) only [sB, Nat.reduceEqDiff, reduceCtorEq, g0, hsl]
   refine ⟨_, s.extract 1 s.size, rfl, ?_, ?_, (by simp only [sG, reduceCtorEq] <;> rfl), (by simp only [sG, Nat.reduceEqDiff, reduceCtorEq, g1] <;> rfl), (by simp only [sG, Nat.reduceEqDiff, reduceCtorEq, g4] <;> rfl), (by simp only [sG, Nat.reduceEqDiff, reduceCtorEq, g6] <;> rfl)⟩
   ·rw [z8b, hbody, List.take_of_length_le (by rw [z20]; exact Nat.le_refl _)]
    simp
   ·have : (s.extract 1 s.size).size ≤ s.size := by rw [ByteArray.size_extract]; omega
    omega
  | false =>
   rw [hneg] at g6 hbody
   refine yi (by simp only [sB] <;> rfl) (ye ?_)
   try simp (disch := first | omega | rfl) only [z02]
   exact ⟨_, s, rfl, by rw [hbody]; rfl, hs, (by simp only [sG, reduceCtorEq, g0] <;> rfl), (by simp only [sG, Nat.reduceEqDiff, g1] <;> rfl), (by simp only [sG, Nat.reduceEqDiff, g4] <;> rfl), (by simp only [sG, Nat.reduceEqDiff, g6] <;> rfl)⟩
 clear g0 g1 g4 g6
 rintro st ⟨tm1, s', rfl, hbl, hs', g0, g1, g4, g6⟩
 clear tm
 generalize hneg : negS (bl s) = neg at g6
 try simp (disch := first | omega | rfl) only [z02]
 (repeat refine ya ?_); refine yb ?_; simp (disch := first | omega | rfl) only [sB, ln9, g0]
 (repeat refine ya ?_)
 refine EvC.join (fun st => ∃ tm, st = ⟨tm, [], H1⟩ ∧ (bodyS (bl s)).any (fun x => 10 ≤ digV x) = false ∧ tm.get 0 = some (.string s') ∧ tm.get 1 = some (.int .i64 10) ∧ tm.get 4 = some (.pointer (some ⟨H.next, 0, none⟩)) ∧ tm.get 6 = some (.bool neg)) ?_ ?_
 ·refine yd (yk (fun k st => ∃ tm i, st = ⟨tm, [], H1⟩ ∧ k = s'.size - i ∧ i ≤ s'.size ∧ (∀ x ∈ (bl s').take i, digV x < 10) ∧ tm.get 0 = some (.string s') ∧ tm.get 1 = some (.int .i64 10) ∧ tm.get 4 = some (.pointer (some ⟨H.next, 0, none⟩)) ∧ tm.get 6 = some (.bool neg) ∧ tm.get 32 = some (.int .i64 s'.size) ∧ tm.get 33 = some (.int .i64 (i : Nat))) ?_ s'.size _ ?_)
  ·rintro k st ⟨tm, i, rfl, hk, hi, hall, f0, f1, f4, f6, f32, f33⟩
   by_cases hlt : i < s'.size
   ·have hgi := z8a s' hlt
    repeat' (first | refine ya ?_ | refine yg ?_ | refine yd ?_ | (refine ye ?_; try simp only [z02]) | (refine yf ?_) | (refine yc ?_; try simp only [z01, z00]) | (refine yb ?_; simp (disch := first | omega | rfl) only [sB, Nat.reduceEqDiff, reduceCtorEq, ix9, cl87, f0, f1, f32, f33, decide_eq_true]) | (refine yh ?_ ?_; simp (disch := first | omega | rfl) only [sB]; refine z03 ?_))
    refine (ze4 (fun _ _ => rfl) (by decide) _ (z54 s' i) H1).mono ?_
    rintro v H' ⟨rfl, rfl⟩
    by_cases hd : 10 ≤ digV (byteAt s' i)
    ·repeat' (first | refine ya ?_ | refine yg ?_ | refine yd ?_ | (refine ye ?_) | (refine yf ?_) | (refine yc ?_; try simp only [z01, z00]) | (refine yb ?_; simp (disch := first | omega | rfl) only [sB, Nat.reduceEqDiff, Nat.reduceAdd, Value.cells, one, layC, zf9, z7o, f4, hg1]) | (refine z0w ?_; simp (disch := first | omega | rfl) only [sA, decide_eq_true]) | (refine yh ?_ ?_; simp (disch := first | omega | rfl) only [sB, Nat.reduceEqDiff]; refine z03 ?_))
     refine z0l rfl (by simp only [sB, Nat.reduceEqDiff, f4] <;> rfl) (by simp only [sB, Nat.reduceAdd, cutC, z7p] <;> rfl) (by simp only [sG, Nat.reduceEqDiff] <;> rfl) ⟨.inl ⟨?_, 12, by omega, rfl⟩, ?_⟩
     ·have hm : byteAt s' i ∈ bodyS (bl s) := by rw [← hbl]; exact List.mem_of_getElem? hgi
      unfold parseD
      rw [if_neg (fun h => by rw [h] at hm; cases hm), if_pos (List.any_eq_true.2 ⟨_, hm, decide_eq_true hd⟩)]
     ·exact hx0.put (Nat.le_refl _) (by omega) _
    ·repeat' (first | refine ya ?_ | refine yg ?_ | refine yd ?_ | (refine ye ?_; try simp only [sA]) | (refine yf ?_) | (refine yc ?_; try simp only [z01, z00]) | (refine yb ?_; simp (disch := first | omega | rfl) only [sB, Nat.reduceEqDiff, f33, z06]) | (refine z0w ?_; simp (disch := first | omega | rfl) only [sA, decide_eq_false]) | (refine yh ?_ ?_; simp (disch := first | omega | rfl) only [sB, Nat.reduceEqDiff]; refine z03 ?_) | (refine yi ?_ ?_; simp (disch := first | omega | rfl) only [sB, Nat.reduceEqDiff]; refine z03 ?_))
     refine ⟨s'.size - (i + 1), by omega, _, i + 1, rfl, rfl, by omega, fun x hx => ?_, (by simp only [sG, reduceCtorEq, f0] <;> rfl), (by simp only [sG, Nat.reduceEqDiff, f1] <;> rfl), (by simp only [sG, Nat.reduceEqDiff, f4] <;> rfl), (by simp only [sG, Nat.reduceEqDiff, f6] <;> rfl), (by simp only [sG, Nat.reduceEqDiff, f32] <;> rfl), (by simp only [sB, Nat.reduceEqDiff] <;> rfl)⟩
     rw [List.take_add_one, hgi] at hx
     rcases List.mem_append.1 hx with h | h
     ·exact hall x h
     ·simp at h; rw [h]; omega
   ·repeat' (first | refine ya ?_ | refine yg ?_ | refine yd ?_ | (refine ye ?_) | (refine yf ?_; try simp only [sB]) | (refine yc ?_; try simp only [z01, z00]) | (refine yb ?_; simp (disch := first | omega | rfl) only [sA, f32, f33, decide_eq_false]) | (refine yh ?_ ?_; simp (disch := first | omega | rfl) only [sB]; refine z03 ?_) | (refine yi ?_ ?_; simp (disch := first | omega | rfl) only [sB]; refine z03 ?_))
    refine ⟨_, rfl, ?_, (by simp only [sG, reduceCtorEq, f0] <;> rfl), (by simp only [sG, Nat.reduceEqDiff, f1] <;> rfl), (by simp only [sG, Nat.reduceEqDiff, f4] <;> rfl), (by simp only [sG, Nat.reduceEqDiff, f6] <;> rfl)⟩
    rw [List.any_eq_false]
    intro x hx
    rw [← hbl] at hx
    have := hall x (by rw [List.take_of_length_le (by rw [z20]; omega)]; exact hx)
    simp; omega
  ·exact ⟨_, 0, rfl, by omega, by omega, by simp, (by simp only [sG, reduceCtorEq, g0] <;> rfl), (by simp only [sG, Nat.reduceEqDiff, g1] <;> rfl), (by simp only [sG, Nat.reduceEqDiff, g4] <;> rfl), (by simp only [sG, Nat.reduceEqDiff, g6] <;> rfl), (by simp only [sG, Nat.reduceEqDiff] <;> rfl), (by simp only [sB, Nat.reduceEqDiff] <;> rfl)⟩
 clear g0 g1 g4 g6 tm1
 rintro st ⟨tm, rfl, hany, g0, g1, g4, g6⟩
 by_cases hsz : s'.size = 0
 ·repeat' (first | refine ya ?_ | refine yg ?_ | refine yd ?_ | (refine ye ?_) | (refine yf ?_) | (refine yc ?_; try simp only [z01, z00]) | (refine yb ?_; simp (disch := first | omega | rfl) only [sB, Nat.reduceEqDiff, Nat.reduceAdd, Value.cells, one, layC, zf9, z7o, g0, g4, z64, decide_eq_true, hg1]) | (refine yh ?_ ?_; simp (disch := first | omega | rfl) only [sB, Nat.reduceEqDiff]; refine z03 ?_))
  refine z0l rfl (by simp only [sB, Nat.reduceEqDiff, g4] <;> rfl) (by simp only [sB, Nat.reduceAdd, cutC, z7p] <;> rfl) (by simp only [sG, Nat.reduceEqDiff] <;> rfl) ⟨.inl ⟨?_, 12, by omega, rfl⟩, hx0.put (Nat.le_refl _) (by omega) _⟩
  have : bodyS (bl s) = [] := by rw [← hbl]; exact List.length_eq_zero_iff.1 (by rw [z20]; exact hsz)
  unfold parseD
  rw [if_pos this]
 have hpd : parseD (bl s) = numD ((bl s').map digV) 0 := by
  have : bodyS (bl s) ≠ [] := by rw [← hbl]; intro h; have := congrArg List.length h; rw [z20] at this; exact hsz this
  unfold parseD
  rw [if_neg this, if_neg (by rw [hany]; simp), hbl]
 repeat' (first | refine ya ?_ | refine yg ?_ | refine yd ?_ | (refine ye ?_; try simp only [z02]) | (refine yf ?_) | (refine yc ?_; try simp only [z01, z00]) | (refine yb ?_; simp (disch := first | omega | rfl) only [sB, Nat.reduceEqDiff, reduceCtorEq, ln9, g0, z64, decide_eq_false]) | (refine yh ?_ ?_; simp (disch := first | omega | rfl) only [sB, Nat.reduceEqDiff]; refine z03 ?_) | (refine yi ?_ ?_; simp (disch := first | omega | rfl) only [sB, Nat.reduceEqDiff]; refine z03 ?_))
 have hdl : ∀ x ∈ bl s', digV x < 10 := by
  rw [← hbl, List.any_eq_false] at hany
  intro x hx
  have := hany x hx
  simp at this; omega
 refine yk (fun k st => ∃ tm i n L v Hc, st = ⟨tm, [], Hc⟩ ∧ k = s'.size - i ∧ i ≤ s'.size ∧ numD (((bl s').map digV).drop i) n = numD ((bl s').map digV) 0 ∧ n < big ∧ valB 4294967296 L = n ∧ limbsOK L ∧ HX H1 Hc ∧
  RepO Hc 95 1 H1.next (L.map fun x => [u32V x]) v ∧ tm.get 0 = some (.string s') ∧ tm.get 1 = some (.int .i64 10) ∧ tm.get 4 = some (.pointer (some ⟨H.next, 0, none⟩)) ∧ tm.get 6 = some (.bool neg) ∧ tm.get 8 = some v ∧
  tm.get 48 = some (.int .i64 s'.size) ∧ tm.get 49 = some (.int .i64 (i : Nat))) ?_ s'.size _ ?_
 ·clear g0 g1 g4 g6 tm
  rintro k st ⟨tm, i, n, L, v, Hc, rfl, hk, hi, hnum, hnb, hval, hL, hxc, hrep, g0, g1, g4, g6, g8, g48, g49⟩
  by_cases hlt : i < s'.size
  ·have hgi := z8a s' hlt
   have hdi : digV (byteAt s' i) < 10 := hdl _ (List.mem_of_getElem? hgi)
   repeat' (first | refine ya ?_ | refine yg ?_ | refine yd ?_ | (refine ye ?_; try simp only [z02]) | (refine yf ?_) | (refine yc ?_; try simp only [z01, z00]) | (refine yb ?_; simp (disch := first | omega | rfl) only [sB, Nat.reduceEqDiff, reduceCtorEq, ix9, cl87, g0, g48, g49, decide_eq_true]) | (refine yh ?_ ?_; simp (disch := first | omega | rfl) only [sB]; refine z03 ?_))
   refine (ze4 (fun _ _ => rfl) (by decide) _ (z54 s' i) Hc).mono ?_
   rintro v' H' ⟨rfl, rfl⟩
   obtain ⟨a, c, rfl, hLc, hcm⟩ := hrep.slice
   rw [List.length_map] at hLc g8 hrep
   have hcm' : c ≤ 9223372036854775807 := hcm
   repeat' (first | refine ya ?_ | refine yg ?_ | refine yd ?_ | (refine ye ?_) | (refine yf ?_) | (refine yc ?_; try simp only [z01, z00]) | (refine yb ?_; simp (disch := first | omega | rfl) only [sB, Nat.reduceEqDiff, z56, g8]) | (refine z0w ?_; simp (disch := first | omega | rfl) only [sB, Nat.reduceEqDiff, zl1, wrap_u64]))
   refine yk (fun k' st => ∃ tm k d cy Hd, st = ⟨tm, [], Hd⟩ ∧ k' = L.length - k ∧ k ≤ L.length ∧ d.length = k ∧ (∀ y ∈ d, y < 4294967296) ∧ cy < 10 ∧
    valB 4294967296 d + 4294967296 ^ k * (10 * valB 4294967296 (L.drop k) + cy) = 10 * valB 4294967296 L + digV (byteAt s' i) ∧ (k ≠ 0 → L[k - 1]? ≠ some 0 → cy ≠ 0 ∨ d.getLast? ≠ some 0) ∧ (k = 0 → cy = digV (byteAt s' i)) ∧ HX H1 Hd ∧
    RepO Hd 95 1 H1.next ((d ++ L.drop k).map fun x => [u32V x]) (.slice a L.length c) ∧ tm.get 0 = some (.string s') ∧ tm.get 1 = some (.int .i64 10) ∧ tm.get 4 = some (.pointer (some ⟨H.next, 0, none⟩)) ∧ tm.get 6 = some (.bool neg) ∧
    tm.get 8 = some (.slice a L.length c) ∧ tm.get 10 = some (.int .u64 (cy : Nat)) ∧ tm.get 48 = some (.int .i64 s'.size) ∧ tm.get 49 = some (.int .i64 (i : Nat)) ∧ tm.get 58 = some (.int .i64 L.length) ∧ tm.get 59 = some (.int .i64 (k : Nat))) ?_ L.length _ ?_
   ·clear hxc hrep g0 g1 g4 g6 g8 g48 g49 tm H'
    rintro k2 st ⟨tm, k, d, cy, Hd, rfl, hk2, hkl, hdk, hdb, hcy, hinv, hlast, hz0, hxc, hrep, g0, g1, g4, g6, g8, g10, g48, g49, g58, g59⟩
    by_cases hkl2 : k < L.length
    ·have hx : L[k]? = some L[k] := List.getElem?_eq_getElem hkl2
     have hdrop : L.drop k = L[k] :: L.drop (k + 1) := List.drop_eq_getElem_cons hkl2
     have hxb : L[k] < 4294967296 := hL.1 _ (List.getElem_mem _)
     generalize L[k] = x at hx hdrop hxb
     rw [hdrop] at hrep hinv
     obtain ⟨b, c2, ho, hv⟩ := hrep.own (by simp)
     have hlm : ((d ++ x :: L.drop (k + 1)).map fun x => [u32V x]).length = L.length := by simp; omega
     rw [hlm] at hv
     cases hv
     have hld := ho.load (i := k) (x := [u32V x]) (by rw [List.getElem?_map, List.getElem?_append_right (by omega), hdk]; simp)
     rw [Nat.mul_one] at hld
     unfold u32V at hld
     obtain ⟨cs, hgb, hle, _⟩ := ho.row
     rw [hlm, Nat.mul_one] at hle
     have hk1 : k + 1 ≤ cs.length := by omega
     have e1 : ((x : Int) * 10 + (cy : Int)) = ((x * 10 + cy : Nat) : Int) := by omega
     repeat' (first | refine ya ?_ | refine yg ?_ | refine yd ?_ | (refine ye ?_; try simp only [z02]) | (refine yf ?_) | (refine yc ?_; try simp only [z01, z00]) | (refine yb ?_; simp (disch := first | omega | rfl) only [sB, Nat.reduceEqDiff, one, zl1, zfa, ld95, zcf, zcg, st95, g1, g8, g10, g58, g59, hld, hgb, hk1, e1, wrap_u64, zab, zcb, z06, decide_eq_true]) | (refine yh ?_ ?_; simp (disch := first | omega | rfl) only [sB]; refine z03 ?_))
     have hset := ho.set hgb (i := k) (y := [u32V ((x * 10 + cy) % 4294967296)]) (by rw [hlm]; exact hkl2) rfl rfl
     rw [Nat.mul_one] at hset
     have hset2 : ((d ++ x :: L.drop (k + 1)).map fun x => [u32V x]).set k [u32V ((x * 10 + cy) % 4294967296)] = ((d ++ [(x * 10 + cy) % 4294967296]) ++ L.drop (k + 1)).map fun x => [u32V x] := by
      rw [List.map_append, List.set_append_right _ _ (by simp; omega)]
      simp [hdk]
     rw [hset2] at hset
     have hlm2 : (((d ++ [(x * 10 + cy) % 4294967296]) ++ L.drop (k + 1)).map fun x => [u32V x]).length = L.length := by simp; omega
     have hcq := zh4 (B := 4294967296) (x := x) (c := cy) (by omega) hxb hcy
     refine ⟨L.length - (k + 1), by omega, _, k + 1, d ++ [(x * 10 + cy) % 4294967296], (x * 10 + cy) / 4294967296, _, rfl, rfl, by omega, by simp [hdk], ?_, hcq, ?_, ?_, by omega, hxc.put ho.lo ho.hi _, .inr ⟨_, _, hset, by rw [hlm2]⟩,
      (by simp only [sG, reduceCtorEq, g0] <;> rfl), (by simp only [sG, Nat.reduceEqDiff, g1] <;> rfl), (by simp only [sG, Nat.reduceEqDiff, g4] <;> rfl), (by simp only [sG, Nat.reduceEqDiff, g6] <;> rfl), (by simp only [sG, Nat.reduceEqDiff, g8] <;> rfl), (by simp only [sG, Nat.reduceEqDiff] <;> rfl), (by simp only [sG, Nat.reduceEqDiff, g48] <;> rfl), (by simp only [sG, Nat.reduceEqDiff, g49] <;> rfl), (by simp only [sG, Nat.reduceEqDiff, g58] <;> rfl), (by simp only [sB, Nat.reduceEqDiff] <;> rfl)⟩
     ·intro y hy
      rcases List.mem_append.1 hy with h | h
      ·exact hdb y h
      ·simp at h; omega
     ·have := zh3 (B := 4294967296) (c := cy) (x := x) (d := d) (rest := L.drop (k + 1))
      rw [hdk] at this
      rw [this]; exact hinv
     ·intro _ hl0
      rw [show k + 1 - 1 = k by omega, hx] at hl0
      have hx0 : x ≠ 0 := fun h => hl0 (by rw [h])
      by_cases hq : (x * 10 + cy) / 4294967296 = 0
      ·refine .inr ?_
       simp
       omega
      ·exact .inl hq
    ·have hkL : k = L.length := by omega
     have hdr : L.drop k = [] := List.drop_of_length_le (by omega)
     rw [hdr] at hinv hrep
     rw [List.append_nil] at hrep
     simp only [valB, Nat.mul_zero, Nat.zero_add] at hinv
     have hfew := zao hL (by rw [z2c, hval]; omega)
     have hlastL : k ≠ 0 → L[k - 1]? ≠ some 0 := fun h0 => by
      have := hL.2
      rw [List.getLast?_eq_getElem?] at this
      rw [hkL]; exact this
     have hlm : (d.map fun x => [u32V x]).length = L.length := by simp; omega
     repeat' (first | refine ya ?_ | refine yg ?_ | refine yd ?_ | (refine ye ?_) | (refine yf ?_; try simp only [sB, Nat.reduceEqDiff]) | (refine yc ?_; try simp only [z01, z00]) | (refine yb ?_; simp (disch := first | omega | rfl) only [sB, Nat.reduceEqDiff, g58, g59, g10, decide_eq_false]) | (refine yh ?_ ?_; simp (disch := first | omega | rfl) only [sB, Nat.reduceEqDiff]; refine z03 ?_) | (refine yi ?_ ?_; simp (disch := first | omega | rfl) only [sB, Nat.reduceEqDiff]; refine z03 ?_))
     have hnn : n * 10 + digV (byteAt s' i) = valB 4294967296 d + 4294967296 ^ k * cy := by rw [hval] at hinv; omega
     have hnumi : numD ((bl s').map digV) 0 = if big ≤ n * 10 + digV (byteAt s' i) then none else numD (((bl s').map digV).drop (i + 1)) (n * 10 + digV (byteAt s' i)) := by
      rw [← hnum, List.drop_eq_getElem_cons (by simp [z20]; omega), numD]
      have : ((bl s').map digV)[i]'(by simp [z20]; omega) = digV (byteAt s' i) := by
       apply Option.some.inj
       rw [← List.getElem?_eq_getElem, List.getElem?_map, hgi]; rfl
      rw [this]
     generalize n * 10 + digV (byteAt s' i) = n' at hnn hnumi
     refine EvC.join (fun st => ∃ tm L' v' Hc', st = ⟨tm, [], Hc'⟩ ∧ valB 4294967296 L' = n' ∧ limbsOK L' ∧ L'.length ≤ 129 ∧ HX H1 Hc' ∧ RepO Hc' 95 1 H1.next (L'.map fun x => [u32V x]) v' ∧
      tm.get 0 = some (.string s') ∧ tm.get 1 = some (.int .i64 10) ∧ tm.get 4 = some (.pointer (some ⟨H.next, 0, none⟩)) ∧ tm.get 6 = some (.bool neg) ∧ tm.get 8 = some v' ∧ tm.get 48 = some (.int .i64 s'.size) ∧ tm.get 49 = some (.int .i64 (i : Nat))) ?_ ?_
     ·by_cases hc0 : cy = 0
      ·repeat' (first | refine ya ?_ | refine yg ?_ | refine yd ?_ | (refine ye ?_; try simp only [z02]) | (refine yf ?_) | (refine yc ?_; try simp only [z01, z00]) | (refine yh ?_ ?_; simp (disch := first | omega | rfl) only [sB, Nat.reduceEqDiff, decide_eq_false]; refine z03 ?_) | (refine yi ?_ ?_; simp (disch := first | omega | rfl) only [sB, Nat.reduceEqDiff, decide_eq_false]; refine z03 ?_))
       refine ⟨_, d, _, _, rfl, by rw [hnn, hc0]; omega, ⟨hdb, ?_⟩, by omega, hxc, hrep, (by simp only [sG, reduceCtorEq, g0] <;> rfl), (by simp only [sG, Nat.reduceEqDiff, g1] <;> rfl), (by simp only [sG, Nat.reduceEqDiff, g4] <;> rfl), (by simp only [sG, Nat.reduceEqDiff, g6] <;> rfl), (by simp only [sG, Nat.reduceEqDiff, g8] <;> rfl), (by simp only [sG, Nat.reduceEqDiff, g48] <;> rfl), (by simp only [sG, Nat.reduceEqDiff, g49] <;> rfl)⟩
       by_cases hk0 : k = 0
       ·have : d = [] := List.length_eq_zero_iff.1 (by omega)
        rw [this]; simp
       ·rcases hlast hk0 (hlastL hk0) with h | h
        ·exact absurd hc0 h
        ·exact h
      ·obtain ⟨H2, v2, hap, hrep2, _, hx2, _⟩ := hrep.push zo1 (y := [u32V cy]) rfl rfl (by simp [most]; omega) hxc.next
       unfold u32V at hap
       repeat' (first | refine ya ?_ | refine yg ?_ | refine yd ?_ | (refine ye ?_) | (refine yf ?_) | (refine yc ?_; try simp only [z01, z00]) | (refine yb ?_; simp (disch := first | omega | rfl) only [sB, Nat.reduceEqDiff, Value.cells, one, layC, zcg, zlr, g8, g10, decide_eq_true, wrap_u32, hap]) | (refine yh ?_ ?_; simp (disch := first | omega | rfl) only [sB, Nat.reduceEqDiff, decide_eq_true]; refine z03 ?_))
       have hk2' : ((d ++ [cy]).map fun x => [u32V x]) = (d.map fun x => [u32V x]) ++ [[u32V cy]] := by simp
       refine ⟨_, d ++ [cy], _, _, rfl, ?_, ⟨?_, by simp; exact hc0⟩, by simp; omega, hx2 _ hxc (Nat.le_refl _), by rw [hk2']; exact hrep2, (by simp only [sG, reduceCtorEq, g0] <;> rfl), (by simp only [sG, Nat.reduceEqDiff, g1] <;> rfl), (by simp only [sG, Nat.reduceEqDiff, g4] <;> rfl), (by simp only [sG, Nat.reduceEqDiff, g6] <;> rfl), (by simp only [sG, Nat.reduceEqDiff] <;> rfl), (by simp only [sG, Nat.reduceEqDiff, g48] <;> rfl), (by simp only [sG, Nat.reduceEqDiff, g49] <;> rfl)⟩
       ·rw [z1p, z57, hdk, hnn]
       ·intro y hy
        rcases List.mem_append.1 hy with h | h
        ·exact hdb y h
        ·simp at h; omega
     clear g0 g1 g4 g6 g8 g10 g48 g49 g58 g59 tm hrep hxc
     rintro st ⟨tm, L', v', Hc', rfl, hval', hL', hfew', hxc, hrep, g0, g1, g4, g6, g8, g48, g49⟩
     obtain ⟨a', c'', rfl, hr⟩ := RepO.rds (vs := L'.map u32V) (by rw [List.map_map]; exact hrep)
     rw [List.length_map] at g8 hrep
     repeat' (first | refine ya ?_ | refine yg ?_ | refine yd ?_ | (refine ye ?_) | (refine yf ?_) | (refine yc ?_; try simp only [z01, z00]) | (refine yb ?_; simp (disch := first | omega | rfl) only [sB, Nat.reduceEqDiff, cl88, g8]))
     refine (zh8 hr hL'.1 (by omega)).mono ?_
     rintro v H2 ⟨rfl, rfl⟩
     rw [hval']
     have hg2 : H2.get H.next = some (.row [.bool false, .slice none 0 0] 112) := by rw [hxc.keep _ (by omega)]; exact hg1
     by_cases hbig : 4096 < nbits n'
     ·repeat' (first | refine ya ?_ | refine yg ?_ | refine yd ?_ | (refine ye ?_) | (refine yf ?_) | (refine yc ?_; try simp only [z01, z00]) | (refine yb ?_; simp (disch := first | omega | rfl) only [sB, Nat.reduceEqDiff, Nat.reduceAdd, Value.cells, one, layC, zf9, z7o, g4, hg2]) | (refine z0w ?_; simp (disch := first | omega | rfl) only [sA, decide_eq_true]) | (refine yh ?_ ?_; simp (disch := first | omega | rfl) only [sB, Nat.reduceEqDiff]; refine z03 ?_))
      refine z0l rfl (by simp only [sB, Nat.reduceEqDiff, g4] <;> rfl) (by simp only [sB, Nat.reduceAdd, cutC, z7p] <;> rfl) (by simp only [sG, Nat.reduceEqDiff] <;> rfl) ⟨.inl ⟨?_, 10, by omega, rfl⟩, (hx0.trans hxc).put (Nat.le_refl _) (by have := hxc.next; omega) _⟩
      rw [hpd, hnumi, if_pos (z2c.1 hbig)]
     ·repeat' (first | refine ya ?_ | refine yg ?_ | refine yd ?_ | (refine ye ?_; try simp only [sA]) | (refine yf ?_) | (refine yc ?_; try simp only [z01, z00]) | (refine yb ?_; simp (disch := first | omega | rfl) only [sB, Nat.reduceEqDiff, g49, z06]) | (refine z0w ?_; simp (disch := first | omega | rfl) only [sA, decide_eq_false]) | (refine yh ?_ ?_; simp (disch := first | omega | rfl) only [sB, Nat.reduceEqDiff]; refine z03 ?_) | (refine yi ?_ ?_; simp (disch := first | omega | rfl) only [sB, Nat.reduceEqDiff]; refine z03 ?_))
      have hnb' : ¬ big ≤ n' := fun h => hbig (z2c.2 h)
      exact ⟨s'.size - (i + 1), by omega, _, i + 1, n', L', _, _, rfl, rfl, by omega, by rw [hnumi, if_neg hnb'], Nat.lt_of_not_le hnb', hval', hL', hxc, hrep, (by simp only [sG, reduceCtorEq, g0] <;> rfl), (by simp only [sG, Nat.reduceEqDiff, g1] <;> rfl), (by simp only [sG, Nat.reduceEqDiff, g4] <;> rfl), (by simp only [sG, Nat.reduceEqDiff, g6] <;> rfl), (by simp only [sG, Nat.reduceEqDiff, g8] <;> rfl), (by simp only [sG, Nat.reduceEqDiff, g48] <;> rfl), (by simp only [sB, Nat.reduceEqDiff] <;> rfl)⟩
   ·refine ⟨_, 0, [], digV (byteAt s' i), _, rfl, by omega, by omega, rfl, by simp, hdi, by simp [valB], by simp, fun _ => rfl, hxc, by simpa using hrep, (by simp only [sG, reduceCtorEq, g0] <;> rfl), (by simp only [sG, Nat.reduceEqDiff, g1] <;> rfl), (by simp only [sG, Nat.reduceEqDiff, g4] <;> rfl), (by simp only [sG, Nat.reduceEqDiff, g6] <;> rfl), (by simp only [sG, Nat.reduceEqDiff, g8] <;> rfl), (by simp only [sG, Nat.reduceEqDiff] <;> rfl), (by simp only [sG, Nat.reduceEqDiff, g48] <;> rfl), (by simp only [sG, Nat.reduceEqDiff, g49] <;> rfl), (by simp only [sG, Nat.reduceEqDiff] <;> rfl), (by simp only [sB, Nat.reduceEqDiff] <;> rfl)⟩
  ·have hi' : i = s'.size := by omega
   have hnn : numD ((bl s').map digV) 0 = some n := by
    rw [← hnum, List.drop_of_length_le (by simp [z20]; omega), numD]
   obtain ⟨a', c'', rfl, hr⟩ := RepO.rds (vs := L.map u32V) (by rw [List.map_map]; exact hrep)
   rw [List.length_map] at g8
   repeat' (first | refine ya ?_ | refine yg ?_ | refine yd ?_ | (refine ye ?_) | (refine yf ?_; try simp only [sB]) | (refine yc ?_; try simp only [z01, z00]) | (refine yb ?_; simp (disch := first | omega | rfl) only [sB, Nat.reduceEqDiff, cl89, g48, g49, g6, g8, decide_eq_false]) | (refine yh ?_ ?_; simp (disch := first | omega | rfl) only [sB]; refine z03 ?_) | (refine yi ?_ ?_; simp (disch := first | omega | rfl) only [sB]; refine z03 ?_))
   refine (zlx hr hxc.wf).mono ?_
   rintro v H2 ⟨m, rfl, hm, hz, hn0, hx2⟩
   have hg2 : H2.get H.next = some (.row [.bool false, .slice none 0 0] 112) := by rw [(hxc.trans hx2).keep _ (by omega)]; exact hg1
   repeat' (first | refine ya ?_ | refine yg ?_ | refine yd ?_ | (refine ye ?_) | (refine yf ?_) | (refine yc ?_; try simp only [z01, z00]) | (refine z0w ?_; simp (disch := first | omega | rfl) only [sB, Nat.reduceAdd, one, z7o, g4, hg2]))
   have hx3 := hxc.trans hx2
   have hm' : m = L.length := by
    rcases Nat.lt_or_ge m L.length with h | h
    ·have := hz (L[L.length - 1]'(by omega)) (List.mem_drop_iff_getElem.2 ⟨L.length - 1 - m, by omega, by congr 1; omega⟩)
     have h2 := hL.2
     rw [List.getLast?_eq_getElem?, List.getElem?_eq_getElem (by omega), this] at h2
     exact absurd rfl h2
    ·omega
   subst hm'
   refine z0l rfl (by simp only [sB, Nat.reduceEqDiff, g4] <;> rfl) (by simp only [sB, Nat.reduceAdd, cutC, z7p] <;> rfl) (by simp only [sB, Nat.reduceEqDiff] <;> rfl) ⟨.inr ⟨n, L, a', c'', by rw [hpd, hnn], by rw [hneg], ?_, hL.1, hval, hL.2, ?_⟩, (hx0.trans hx3).put (Nat.le_refl _) (by have := hx3.next; omega) _⟩
   ·rw [List.length_map] at hrep
    have h3 := (hrep.keep hx2).putlo (i := H.next) (by omega) (some (.row [.bool (neg && decide (0 < L.length)), .slice a' L.length c''] 112))
    exact (RepO.rds' (vs := L.map u32V) (by rw [List.map_map]; exact h3)).2
   ·have := zao hL (by rw [z2c, hval]; omega)
    omega
 ·exact ⟨_, 0, 0, [], _, _, rfl, by omega, by omega, by simp, by rw [z5z]; exact Nat.two_pow_pos _, rfl, ⟨by simp, by simp⟩, HX.refl hx0.wf, RepO.empty, (by simp only [sG, reduceCtorEq, g0] <;> rfl), (by simp only [sG, Nat.reduceEqDiff, g1] <;> rfl), (by simp only [sG, Nat.reduceEqDiff, g4] <;> rfl), (by simp only [sG, Nat.reduceEqDiff, g6] <;> rfl), (by simp only [sG, Nat.reduceEqDiff] <;> rfl), (by simp only [sG, Nat.reduceEqDiff] <;> rfl), (by simp only [sB, Nat.reduceEqDiff] <;> rfl)⟩
def u8V (n : Nat) : Value := .int .u8 (n : Int)
theorem zh9 {s : ByteArray} (h : ∀ i : Fin 10, byteAt s i = 48 + i) {y : Nat} (hy : y < 10) : byteAt s y = 48 + y := h ⟨y, hy⟩
theorem z66 {B : Nat} (hB : 0 < B) {M : List Nat} (h0 : M ≠ []) (h : M.getLast? ≠ some 0) : valB B M ≠ 0 := by
 rcases List.eq_nil_or_concat M with rfl | ⟨l, x, rfl⟩
 ·exact absurd rfl h0
 ·rw [List.concat_eq_append] at *
  have hx : x ≠ 0 := by simpa using h
  rw [z1p, z57]
  have : 0 < B ^ l.length * x := Nat.mul_pos (Nat.pow_pos hB) (by omega)
  omega
set_option maxHeartbeats 4000000 in
theorem zly {L : List Nat} {neg : Bool} {a : Option Addr} {c n : Nat} {H : Heap} (hw : H.wf) (r : RdS H (L.map u32V) a c) (hL : ∀ y ∈ L, y < 4294967296) (hlen : L.length ≤ 4096) (hval : valB 4294967296 L = n) (hn : n < big) :
  EvF Tryz.prog okT 81 [.agg ⟨[.bool neg, .slice a L.length c]⟩, .int .i64 10] H fun v H' => (∃ t : ByteArray, v = .tuple ⟨[.string t, .int .i64 0]⟩ ∧ bl t = textD neg n) ∧ HX H H' := by
 refine EvF.enter rfl Tryz.func81 (by decide) rfl ?_
 (repeat refine ya ?_); refine yb ?_; simp (disch := first | omega | rfl) only [sB, initTm, dBox, Value.cells, one, reduceCtorEq]
 have hx0 := (HX.refl hw).new (some (.row [.bool neg, .slice a L.length c] 112))
 obtain ⟨H1, hH1⟩ : ∃ H1, H1 = H.new (some (.row [.bool neg, .slice a L.length c] 112)) := ⟨_, rfl⟩
 have hn1 : H1.next = H.next + 1 := by rw [hH1]; rfl
 have hg1 : H1.get H.next = some (.row [.bool neg, .slice a L.length c] 112) := by rw [hH1]; exact z0o
 have hl1 : H1.load ⟨H.next, 0, none⟩ 2 = some [.bool neg, .slice a L.length c] := by rw [hH1]; exact z2a
 have hlb : H1.load ⟨H.next, 0, none⟩ 1 = some [.bool neg] := by rw [hH1]; exact z2a
 have hls : H1.load ⟨H.next, 1, none⟩ 1 = some [.slice a L.length c] := by rw [hH1]; exact z2a
 rw [← hH1] at hx0 ⊢
 have hw1 := hx0.wf
 have hx2 := (HX.refl hw1).new (some (.row [.bool neg, .slice a L.length c] 112))
 repeat' (first | refine ya ?_ | refine yg ?_ | refine yd ?_ | (refine ye ?_) | (refine yf ?_) | (refine yc ?_; try simp only [z01, z00]) | (refine yb ?_; simp (disch := first | omega | rfl) only [sB, Nat.reduceEqDiff, Nat.reduceAdd, Value.cells, one, reduceCtorEq, layC, z7p, zls, cl90, hl1]))
 refine (zlw ((r.keep hx0 hw).keep hx2 hw1) hL (by omega) hx2.wf (Nat.lt_succ_self _) z2a).mono ?_
 rintro v H2 ⟨rfl, hx3⟩
 have hx13 := hx2.trans hx3
 have hl2 := hx13.load hw1 hls
 have hlb2 := hx13.load hw1 hlb
 have hng : ¬ 4096 < nbits (valB 4294967296 L) := by rw [z2c, hval]; omega
 rw [decide_eq_false hng]
 repeat' (first | refine ya ?_ | refine yg ?_ | refine yd ?_ | (refine ye ?_; try simp only [z02]) | (refine yf ?_) | (refine yc ?_; try simp only [z01, z00]) | (refine yb ?_; simp (disch := first | omega | rfl) only [sB, Nat.reduceEqDiff, reduceCtorEq, zgy, zna, cl92, cl91, hl2, decide_eq_false, Bool.false_eq_true]) | (refine yh ?_ ?_; simp (disch := first | omega | rfl) only [sB, Nat.reduceEqDiff, reduceCtorEq]; refine z03 ?_) | (refine yi ?_ ?_; simp (disch := first | omega | rfl) only [sB, Nat.reduceEqDiff, reduceCtorEq]; refine z03 ?_))
 have r2 := (r.keep hx0 hw).keep hx13 hw1
 refine (z9d (fun _ _ => rfl) (by decide) r2).mono ?_
 rintro v H3 ⟨m, rfl, hm, hz, hn0, rfl⟩
 have hvm : valB 4294967296 (L.take m) = n := by rw [z3w hz, hval]
 have hlm : (L.take m).length = m := by rw [List.length_take]; omega
 have hLm : ∀ y ∈ L.take m, y < 4294967296 := fun y hy => hL y (List.mem_of_mem_take hy)
 have hlast : (L.take m).getLast? ≠ some 0 := by
  rw [List.getLast?_eq_getElem?, hlm]
  by_cases h0 : m = 0
  ·subst h0; simp
  ·rw [List.getElem?_take, if_pos (by omega)]; exact hn0 h0
 have r3 : RdS H3 ((L.take m).map u32V) a c := by rw [List.map_take]; exact r2.take m
 generalize L.take m = M0 at hvm hlm hLm hlast r3
 subst hlm
 repeat' (first | refine ya ?_ | refine yg ?_ | refine yd ?_ | (refine ye ?_) | (refine yf ?_) | (refine yc ?_; try simp only [z01, z00]))
 refine (znj r3 (by omega) hx13.wf).mono ?_
 rintro v H4 ⟨b, c2, ho, rfl, hx4⟩
 have hx14 := hx13.trans hx4
 by_cases h0 : M0.length = 0
 ·have hM : M0 = [] := List.length_eq_zero_iff.1 h0
  subst hM
  repeat' (first | refine ya ?_ | refine yg ?_ | refine yd ?_ | (refine ye ?_) | (refine yf ?_) | (refine yc ?_; try simp only [z01, z00]) | (refine yb ?_; simp (disch := first | omega | rfl) only [sB, Nat.reduceEqDiff, reduceCtorEq, z56, z1z]) | (refine yh ?_ ?_; simp (disch := first | omega | rfl) only [sB, Nat.reduceEqDiff, reduceCtorEq]; refine z03 ?_))
  refine z0j rfl (by simp only [sB, Nat.reduceEqDiff, reduceCtorEq] <;> rfl) (by simp only [sG, Nat.reduceEqDiff, reduceCtorEq] <;> rfl) ⟨⟨_, rfl, ?_⟩, hx0.trans hx14⟩
  rw [← hvm]; rfl
 ·have hnz := z66 (B := 4294967296) (by omega) (fun h => h0 (by rw [h]; rfl)) hlast
  rw [hvm] at hnz
  repeat' (first | refine ya ?_ | refine yg ?_ | refine yd ?_ | (refine ye ?_; try simp only [z02]) | (refine yf ?_) | (refine yc ?_; try simp only [z01, z00]) | (refine yb ?_; simp (disch := first | omega | rfl) only [sB, Nat.reduceEqDiff, reduceCtorEq, z56, z0x]) | (refine yh ?_ ?_; simp (disch := first | omega | rfl) only [sB, Nat.reduceEqDiff, reduceCtorEq]; refine z03 ?_) | (refine yi ?_ ?_; simp (disch := first | omega | rfl) only [sB, Nat.reduceEqDiff, reduceCtorEq]; refine z03 ?_))
  refine yk (fun k st => ∃ tm M od v6 v7 Hc, st = ⟨tm, [], Hc⟩ ∧ k = valB 4294967296 M ∧ (∀ y ∈ M, y < 4294967296) ∧ M.length ≤ 4096 ∧ M.getLast? ≠ some 0 ∧ decR n = od ++ decR (valB 4294967296 M) ∧ (M ≠ [] → valB 4294967296 M * 10 ^ od.length ≤ n) ∧ od.length ≤ 4096 ∧
    (∀ y ∈ od, y < 10) ∧ HX H3 Hc ∧ RepO Hc 95 1 H3.next (M.map fun x => [u32V x]) v6 ∧ RepO Hc 5 1 H3.next (od.map fun x => [u8V (48 + x)]) v7 ∧ tm.get 1 = some (.int .i64 10) ∧ tm.get 2 = some (.pointer (some ⟨H.next, 0, none⟩)) ∧ tm.get 6 = some v6 ∧ tm.get 7 = some v7) ?_ (valB 4294967296 M0) _ ?_
  ·rintro k st ⟨tm, M, od, v6, v7, Hc, rfl, rfl, hMb, hMl, hMn, hdec, hle, hol, hod, hxc, hr6, hr7, g1, g2, g6, g7⟩
   by_cases hM0 : M = []
   ·subst hM0
    obtain ⟨a6, c6, rfl, -, -⟩ := hr6.slice
    rw [List.length_map] at g6
    have hlbc := hxc.load hx13.wf hlb2
    have hdec' : decR n = od := by rw [hdec]; simp [valB, zan]
    repeat' (first | refine ya ?_ | refine yg ?_ | refine yd ?_ | (refine ye ?_) | (refine yf ?_; try simp only [sB]) | (refine yc ?_; try simp only [z01, z00]) | (refine yb ?_; simp (disch := first | omega | rfl) only [sB, Nat.reduceEqDiff, z56, zlt, ld4, g2, g6, hlbc, decide_eq_false]) | (refine yh ?_ ?_; simp (disch := first | omega | rfl) only [sB, Nat.reduceEqDiff]; refine z03 ?_) | (refine yi ?_ ?_; simp (disch := first | omega | rfl) only [sB, Nat.reduceEqDiff]; refine z03 ?_))
    refine EvC.join (fun st => ∃ tm o v Hd, st = ⟨tm, [], Hd⟩ ∧ o = (od.map fun x => 48 + x) ++ (if neg then [45] else []) ∧ HX H3 Hd ∧ RepO Hd 5 1 H3.next (o.map fun x => [u8V x]) v ∧ tm.get 7 = some v) ?_ ?_
    ·cases neg with
     | true =>
      obtain ⟨H5, v5, hap, hr7b, -, hx5, -⟩ := hr7.push zgz (y := [u8V 45]) rfl rfl (by simp [most]; omega) hxc.next
      have h45 : u8V 45 = .int .u8 45 := rfl
      rw [h45] at hap
      refine yh (by simp only [sB, Nat.reduceEqDiff] <;> rfl) ?_
      repeat' (first | refine ya ?_ | refine yg ?_ | refine yd ?_ | (refine ye ?_) | (refine yf ?_) | (refine yc ?_; try simp only [z01, z00]) | (refine yb ?_; simp (disch := first | omega | rfl) only [sB, Nat.reduceEqDiff, Value.cells, one, layC, z76, g7, hap]))
      refine ⟨_, _, _, _, rfl, rfl, hx5 _ hxc (Nat.le_refl _), ?_, (by simp only [sB, Nat.reduceEqDiff] <;> rfl)⟩
      first | (rw [List.map_append, List.map_map]; exact hr7b) | (simp only [if_true, List.map_append, List.map_map]; exact hr7b)
     | false =>
      refine yi (by simp only [sB, Nat.reduceEqDiff] <;> rfl) ?_
      repeat' (first | refine ya ?_ | refine yg ?_ | refine yd ?_ | (refine ye ?_; try simp only [sB, reduceCtorEq]) | (refine yf ?_) | (refine yc ?_; try simp only [z01, z00]))
      exact ⟨_, _, _, _, rfl, rfl, hxc, by first | (rw [List.append_nil, List.map_map]; exact hr7) | (simp only [Bool.false_eq_true, if_false, List.append_nil, List.map_map]; exact hr7), (by simp only [sG, Nat.reduceEqDiff, g7] <;> rfl)⟩
    clear g1 g2 g6 g7 hr7 hr6 hxc hlbc tm
    rintro st ⟨tm, o, v, Hd, rfl, ho', hxc, hr7, g7⟩
    have hob : ∀ y ∈ o, y < 256 := by
     intro y hy
     rw [ho'] at hy
     rcases List.mem_append.1 hy with h | h
     ·obtain ⟨x, hx, rfl⟩ := List.mem_map.1 h
      have := hod x hx; omega
     ·cases neg <;> simp at h
      omega
    have hon : 0 < o.length := by
     have : od ≠ [] := by rw [← hdec', z65 hnz]; simp
     rw [ho', List.length_append, List.length_map]
     have := List.length_pos_iff.2 this
     omega
    have hol2 : o.length ≤ 4097 := by
     rw [ho', List.length_append, List.length_map]
     cases neg <;> simp <;> omega
    have htx : textD neg n = o.reverse := by
     unfold textD
     rw [if_neg hnz, hdec', ho']
    obtain ⟨b7, c7, ho7, rfl⟩ := hr7.own (by intro h; rw [List.map_eq_nil_iff] at h; rw [h] at hon; simp at hon)
    rw [List.length_map] at g7
    repeat' (first | refine ya ?_ | refine yg ?_ | refine yd ?_ | (refine ye ?_) | (refine yf ?_) | (refine yc ?_; try simp only [z01, z00]) | (refine yb ?_; simp (disch := first | omega | rfl) only [sB, Nat.reduceEqDiff, znc, g7, z06]))
    refine yk (fun k st => ∃ (tm : Tr Value) (S : List Nat) (i : Nat) (He : Heap), st = ⟨tm, [], He⟩ ∧ k = o.length - i ∧ 2 * i ≤ o.length ∧ S.length = o.length ∧ (∀ j, j < o.length → S[j]? = if j < i ∨ o.length - i ≤ j then o[o.length - 1 - j]? else o[j]?) ∧ HX H3 He ∧
     OwnS He 5 1 H3.next (S.map fun x => [u8V x]) b7 c7 ∧ tm.get 7 = some (.slice (some ⟨b7, 0, none⟩) o.length c7) ∧ tm.get 10 = some (.int .i64 (i : Nat)) ∧ tm.get 11 = some (.int .i64 ((o.length : Int) - 1 - (i : Int)))) ?_ o.length _ ?_
    ·clear g7 ho7 hr7 hxc tm
     rintro k0 st ⟨tm, S, i, He, rfl, hk0, hi2, hSl, hS, hxc, ho7, g7, g10, g11⟩
     by_cases hlt : 2 * i + 1 < o.length
     ·obtain ⟨k, hk⟩ : ∃ k, k = o.length - 1 - i := ⟨_, rfl⟩
      have e1 : ((o.length : Int) - 1 - (i : Int)) = (k : Int) := by omega
      rw [e1] at g11
      have hxi : S[i]? = some S[i] := List.getElem?_eq_getElem (by omega)
      have hxk : S[k]? = some S[k] := List.getElem?_eq_getElem (by omega)
      generalize S[i] = x at hxi
      generalize S[k] = y at hxk
      have hldi := ho7.load (i := i) (x := [u8V x]) (by rw [List.getElem?_map, hxi]; rfl)
      have hldk := ho7.load (i := k) (x := [u8V y]) (by rw [List.getElem?_map, hxk]; rfl)
      rw [Nat.mul_one] at hldi hldk
      unfold u8V at hldi hldk
      obtain ⟨cs, hgb, hcl, _⟩ := ho7.row
      rw [List.length_map, hSl, Nat.mul_one] at hcl
      have hk1 : i + 1 ≤ cs.length := by omega
      have hk2 : k + 1 ≤ (Hb.splice cs i [Value.int .u8 (y : Int)]).length := by rw [z0c (by simp; omega)]; omega
      repeat' (first | refine ya ?_ | refine yg ?_ | refine yd ?_ | (refine ye ?_; try simp only [z02]) | (refine yf ?_) | (refine yc ?_; try simp only [z01, z00]) | (refine yb ?_; simp (disch := first | omega | rfl) only [sB, Nat.reduceEqDiff, g10, g11, decide_eq_true, z06]) | (refine yj [([(0, 0), (1, 0), (4, 0), (5, 0), (6, 0), (7, 0), (8, 0), (9, 0), (10, 0), (11, 0), (12, 0)], some 13), ([(2, 0), (3, 0), (14, 1)], some 15), ([], none)] ?_ ?_; kernel_rfl; simp (disch := first | omega | rfl) only [sD, sB, Nat.reduceEqDiff, Nat.reduceAdd, one, reduceCtorEq, znd, ld5, st5, g7, g10, g11, hldi, hldk, hgb, hk1, hk2, isAlloc, isRead, reduceCtorEq]) | (refine yh ?_ ?_; simp (disch := first | omega | rfl) only [sB, Nat.reduceEqDiff]; refine z03 ?_))
      have hb1 : OwnS (⟨He.next + 16, He.t⟩ : Heap) 5 1 H3.next (S.map fun x => [u8V x]) b7 c7 := ho7.heap rfl (Nat.le_add_right _ _)
      have hb2 := hb1.set (cs := cs) hgb (i := i) (y := [u8V y]) (by simp; omega) rfl rfl
      have hb3 := hb2.set z6s (i := k) (y := [u8V x]) (by simp; omega) rfl rfl
      rw [Nat.mul_one, Nat.mul_one] at hb3
      have hoi : o[i]? = some x := by rw [← hxi, hS i (by omega), if_neg (by omega)]
      have hok : o[k]? = some y := by rw [← hxk, hS k (by omega), if_neg (by omega)]
      have hmap : (((S.map fun x => [u8V x]).set i [u8V y]).set k [u8V x]) = ((S.set i y).set k x).map fun x => [u8V x] := by simp [List.map_set]
      rw [hmap] at hb3
      refine ⟨o.length - (i + 1), by omega, _, (S.set i y).set k x, i + 1, _, rfl, rfl, by omega, by simp [hSl], fun j hj => ?_, ((hxc.bump 16).put (i := b7) ho7.lo (Nat.lt_of_lt_of_le ho7.hi (Nat.le_add_right _ _)) _).put (i := b7) ho7.lo (Nat.lt_of_lt_of_le ho7.hi (Nat.le_add_right _ _)) _, hb3, (by simp only [sG, Nat.reduceEqDiff, g7] <;> rfl), (by simp only [sB, Nat.reduceEqDiff] <;> rfl), by simp only [sB, Nat.reduceEqDiff]; first | done | (congr 1; omega)⟩
      by_cases hjk : j = k
      ·rw [hjk, List.getElem?_set_self (by simp; omega), if_pos (by omega), ← hoi]
       first | done | (congr 1; done) | (congr 1; omega)
      ·rw [List.getElem?_set_ne (by omega)]
       by_cases hji : j = i
       ·rw [hji, List.getElem?_set_self (by omega), if_pos (by omega), ← hok]
        first | done | (congr 1; done) | (congr 1; omega)
       ·rw [List.getElem?_set_ne (by omega), hS j hj]
        by_cases hc : j < i ∨ o.length - i ≤ j
        ·rw [if_pos hc, if_pos (by omega)]
        ·rw [if_neg hc, if_neg (by omega)]
     ·have hrev : S = o.reverse := by
       apply List.ext_getElem?
       intro j
       by_cases hj : j < o.length
       ·rw [hS j hj, List.getElem?_reverse hj]
        split
        ·rfl
        ·congr 1; omega
       ·rw [List.getElem?_eq_none (by omega), List.getElem?_eq_none (by simp; omega)]
      have hrd : RdS He (S.map u8V) (some ⟨b7, 0, none⟩) c7 := OwnS.rds (by rw [List.map_map]; exact ho7)
      obtain ⟨b8, o8, h8, hload⟩ := hrd.all (by intro h; rw [List.map_eq_nil_iff] at h; rw [h] at hSl; simp at hSl; omega)
      cases h8
      rw [List.length_map, hSl] at hload
      obtain ⟨t, hdb, ht⟩ := z87 (c := c7) (l := S) hload (by omega)
      have hcon := z85 (P := Tryz.prog) (src := 127) (dst := 9) (e := 5) (by kernel_rfl) (by kernel_rfl) (by kernel_rfl) hdb
      repeat' (first | refine ya ?_ | refine yg ?_ | refine yd ?_ | (refine ye ?_) | (refine yf ?_; try simp only [sB]) | (refine yc ?_; try simp only [z01, z00]) | (refine yb ?_; simp (disch := first | omega | rfl) only [sB, Nat.reduceEqDiff, g7, g10, g11, hcon, decide_eq_false]) | (refine yh ?_ ?_; simp (disch := first | omega | rfl) only [sB, Nat.reduceEqDiff]; refine z03 ?_) | (refine yi ?_ ?_; simp (disch := first | omega | rfl) only [sB, Nat.reduceEqDiff]; refine z03 ?_))
      refine z0j rfl (by simp only [sG, Nat.reduceEqDiff] <;> rfl) (by simp only [sG, Nat.reduceEqDiff] <;> rfl) ⟨⟨t, rfl, ?_⟩, (hx0.trans hx13).trans hxc⟩
      unfold bl
      rw [ht, List.map_map, htx, ← hrev]
      have : ∀ l : List Nat, (∀ y ∈ l, y < 256) → l.map (UInt8.toNat ∘ UInt8.ofNat) = l := by
       intro l hl
       conv => rhs; rw [← List.map_id l]
       apply List.map_congr_left
       intro y hy
       have := hl y hy
       simp [UInt8.toNat_ofNat]
       omega
      exact this S fun y hy => hob y (by rw [hrev] at hy; exact List.mem_reverse.1 hy)
    ·refine ⟨_, o, 0, _, rfl, rfl, by omega, rfl, fun j hj => ?_, hxc, ho7, (by simp only [sG, Nat.reduceEqDiff, g7] <;> rfl), (by simp only [sB, Nat.reduceEqDiff] <;> rfl), by simp only [sB, Nat.reduceEqDiff]; congr 1; omega⟩
     rw [if_neg (by omega)]
   ·have hM1 : 0 < M.length := List.length_pos_iff.2 hM0
    have hvM := z66 (B := 4294967296) (by omega) hM0 hMn
    obtain ⟨b6, c6, ho6, rfl⟩ := hr6.own (by simpa using hM0)
    rw [List.length_map] at g6
    repeat' (first | refine ya ?_ | refine yg ?_ | refine yd ?_ | (refine ye ?_; try simp only [z02]) | (refine yf ?_) | (refine yc ?_; try simp only [z01, z00]) | (refine yb ?_; simp (disch := first | omega | rfl) only [sB, Nat.reduceEqDiff, z56, g6, decide_eq_true, z06]) | (refine yh ?_ ?_; simp (disch := first | omega | rfl) only [sB, Nat.reduceEqDiff]; refine z03 ?_))
    refine yk (fun k st => ∃ tm q r Hd, st = ⟨tm, [], Hd⟩ ∧ k ≤ M.length ∧ q.length = M.length - k ∧ (∀ y ∈ q, y < 4294967296) ∧ r < 10 ∧ valB 4294967296 (M.take k) + 4294967296 ^ k * (10 * valB 4294967296 q + r) = valB 4294967296 M ∧ HX H3 Hd ∧
     OwnS Hd 95 1 H3.next ((M.take k ++ q).map fun x => [u32V x]) b6 c6 ∧ RepO Hd 5 1 H3.next (od.map fun x => [u8V (48 + x)]) v7 ∧ tm.get 1 = some (.int .i64 10) ∧ tm.get 2 = some (.pointer (some ⟨H.next, 0, none⟩)) ∧
     tm.get 6 = some (.slice (some ⟨b6, 0, none⟩) M.length c6) ∧ tm.get 7 = some v7 ∧ tm.get 8 = some (.int .u32 (r : Nat)) ∧ tm.get 9 = some (.int .i64 ((k : Int) - 1))) ?_ M.length _ ?_
    ·clear g1 g2 g6 g7 hxc hr6 hr7 ho6 tm
     rintro k st ⟨tm, q, r, Hd, rfl, hk, hq, hqb, hr, hinv, hxc, ho6, hr7, g1, g2, g6, g7, g8, g9⟩
     cases k with
     | zero =>
      rw [List.take_zero, List.nil_append] at ho6
      simp only [List.take_zero, valB, Nat.pow_zero, Nat.one_mul, Nat.zero_add] at hinv
      have hqM : q.length = M.length := by omega
      repeat' (first | refine ya ?_ | refine yg ?_ | refine yd ?_ | (refine ye ?_) | (refine yf ?_; try simp only [sB, Nat.reduceEqDiff, reduceCtorEq]) | (refine yc ?_; try simp only [z01, z00]) | (refine yb ?_; simp (disch := first | omega | rfl) only [sB, Nat.reduceEqDiff, cl92, g6, g9, decide_eq_false]) | (refine yh ?_ ?_; simp (disch := first | omega | rfl) only [sB, Nat.reduceEqDiff]; refine z03 ?_) | (refine yi ?_ ?_; simp (disch := first | omega | rfl) only [sB, Nat.reduceEqDiff]; refine z03 ?_))
      have hrq : RdS Hd (q.map u32V) (some ⟨b6, 0, none⟩) c6 := OwnS.rds (by rw [List.map_map]; exact ho6)
      rw [← hqM]
      refine (z9d (fun _ _ => rfl) (by decide) hrq).mono ?_
      rintro v H' ⟨m, rfl, hm, hz, hn0, rfl⟩
      have hmost : od.length + 1 ≤ most := by
       have := z44 (e := mostBits) hvM (hle hM0) (by rw [← z5z]; exact hn)
       simp [mostBits] at this
       simp [most]; omega
      obtain ⟨H5, v5, hap, hr7b, hn5, hx5, hk5⟩ := hr7.push zgz (y := [u8V (48 + r)]) rfl rfl (by simpa using hmost) hxc.next
      unfold u8V at hap
      repeat' (first | refine ya ?_ | refine yg ?_ | refine yd ?_ | (refine ye ?_) | (refine yf ?_) | (refine yc ?_; try simp only [z01, z00]) | (refine yb ?_; simp (disch := first | omega | rfl) only [sB, Nat.reduceEqDiff, g7, g8]))
      rw [z0v us9 (show r < _ from by show _ < 36; omega), zh9 (by decide) hr]
      repeat' (first | refine ya ?_ | refine yg ?_ | refine yd ?_ | (refine ye ?_) | (refine yf ?_) | (refine yc ?_; try simp only [z01, z00]) | (refine z0w ?_; simp (disch := first | omega | rfl) only [sB, Nat.reduceEqDiff, Value.cells, one, layC, z76, hap]))
      have hvq : valB 4294967296 (q.take m) = valB 4294967296 q := z3w hz
      have hq10 : valB 4294967296 q = valB 4294967296 M / 10 := by omega
      have hr10 : r = valB 4294967296 M % 10 := by omega
      have hod2 : ((od ++ [r]).map fun x => [u8V (48 + x)]) = (od.map fun x => [u8V (48 + x)]) ++ [[u8V (48 + r)]] := by simp
      have ho7 : RepO H5 95 1 H3.next ((q.take m).map fun x => [u32V x]) (.slice (some ⟨b6, 0, none⟩) m c6) := by
       have h1 := RepO.takeO ho6 m (by simpa using hm)
       rw [← List.map_take] at h1
       exact h1.beside hk5 (by omega) (by decide)
      refine ⟨valB 4294967296 (q.take m), by rw [hvq]; omega, _, q.take m, od ++ [r], _, _, _, rfl, rfl, fun y hy => hqb y (List.mem_of_mem_take hy), by rw [List.length_take]; omega, ?_, ?_, ?_, ?_, ?_, hx5 _ hxc (Nat.le_refl _), ho7, by rw [hod2]; exact hr7b, (by simp only [sG, Nat.reduceEqDiff, g1] <;> rfl), (by simp only [sG, Nat.reduceEqDiff, g2] <;> rfl), (by simp only [sG, Nat.reduceEqDiff] <;> rfl), (by simp only [sG, Nat.reduceEqDiff] <;> rfl)⟩
      ·rw [List.getLast?_eq_getElem?, List.length_take, Nat.min_eq_left hm]
       by_cases h0 : m = 0
       ·subst h0; simp
       ·rw [List.getElem?_take, if_pos (by omega)]; exact hn0 h0
      ·rw [hdec, z65 hvM, hvq, hq10, ← hr10]; simp
      ·intro _
       rw [hvq, List.length_append, List.length_singleton, Nat.pow_succ]
       have h1 := hle hM0
       have h2 : valB 4294967296 q * (10 ^ od.length * 10) = (valB 4294967296 q * 10) * 10 ^ od.length := by rw [Nat.mul_comm (10 ^ od.length) 10, Nat.mul_assoc]
       rw [h2]
       exact Nat.le_trans (Nat.mul_le_mul_right _ (by omega)) h1
      ·have := z44 (e := mostBits) hvM (hle hM0) (by rw [← z5z]; exact hn)
       simp [mostBits] at this
       simp; omega
      ·intro y hy
       rcases List.mem_append.1 hy with h | h
       ·exact hod y h
       ·simp at h; omega
     | succ j =>
      have e0 : (((j + 1 : Nat) : Int) - 1) = (j : Int) := by omega
      rw [e0] at g9
      have hx : M[j]? = some M[j] := List.getElem?_eq_getElem (by omega)
      have hxb : M[j] < 4294967296 := hMb _ (List.getElem_mem _)
      have htk : M.take (j + 1) = M.take j ++ [M[j]] := by rw [List.take_add_one, hx]; rfl
      generalize M[j] = x at hx hxb htk
      rw [htk] at hinv ho6
      have hlj : (M.take j).length = j := by rw [List.length_take]; omega
      have hlm : (((M.take j ++ [x]) ++ q).map fun x => [u32V x]).length = M.length := by simp; omega
      have hld := ho6.load (i := j) (x := [u32V x]) (by rw [List.append_assoc, List.getElem?_map, List.getElem?_append_right (by omega), hlj]; simp)
      rw [Nat.mul_one] at hld
      unfold u32V at hld
      repeat' (first | refine ya ?_ | refine yg ?_ | refine yd ?_ | (refine ye ?_; try simp only [z02]) | (refine yf ?_) | (refine yc ?_; try simp only [z01, z00]) | (refine yb ?_; simp (disch := first | omega | rfl) only [sB, Nat.reduceEqDiff, zfa, ld95, znb, cl93, g1, g6, g8, g9, hld, decide_eq_true, wrap_u32]) | (refine yh ?_ ?_; simp (disch := first | omega | rfl) only [sB, Nat.reduceEqDiff]; refine z03 ?_))
      refine (zj9 (fun _ _ => rfl) (by decide) hr hxb hxc.wf).mono ?_
      rintro v H' ⟨rfl, hxd⟩
      have ho6' := ho6.keep hxd
      have hr7' := hr7.keep hxd
      obtain ⟨cs, hgb, hcl, _⟩ := ho6'.row
      rw [hlm, Nat.mul_one] at hcl
      have hk1 : j + 1 ≤ cs.length := by omega
      repeat' (first | refine ya ?_ | refine yg ?_ | refine yd ?_ | (refine ye ?_) | (refine yf ?_) | (refine yc ?_; try simp only [z01, z00]) | (refine yb ?_; simp (disch := first | omega | rfl) only [sB, Nat.reduceEqDiff, g9, z06]) | (refine z0w ?_; simp (disch := first | omega | rfl) only [sB, Nat.reduceEqDiff, one, zfa, st95, hgb, hk1]))
      have hset := ho6'.set hgb (i := j) (y := [u32V ((r * 4294967296 + x) / 10)]) (by rw [hlm]; omega) rfl rfl
      rw [Nat.mul_one] at hset
      have hset2 : (((M.take j ++ [x]) ++ q).map fun x => [u32V x]).set j [u32V ((r * 4294967296 + x) / 10)] = (M.take j ++ ((r * 4294967296 + x) / 10 :: q)).map fun x => [u32V x] := by
       rw [List.append_assoc, List.map_append, List.set_append_right _ _ (by rw [List.length_map, hlj]; exact Nat.le_refl _), List.length_map, hlj, Nat.sub_self]
       simp
      rw [hset2] at hset
      have hinv2 := zh5 (B := 4294967296) (x := x) (r := r) (low := M.take j) (q := q)
      rw [hlj] at hinv2
      refine ⟨j, by omega, _, (r * 4294967296 + x) / 10 :: q, (r * 4294967296 + x) % 10, _, rfl, by omega, by simp; omega, ?_, by omega, by rw [← hinv2]; exact hinv, (hxc.trans hxd).put ho6'.lo ho6'.hi _, hset, hr7'.other hgb (by decide) _, (by simp only [sG, Nat.reduceEqDiff, g1] <;> rfl), (by simp only [sG, Nat.reduceEqDiff, g2] <;> rfl), (by simp only [sG, Nat.reduceEqDiff, g6] <;> rfl), (by simp only [sG, Nat.reduceEqDiff, g7] <;> rfl), (by simp only [sG, Nat.reduceEqDiff] <;> rfl), (by simp only [sG, Nat.reduceEqDiff] <;> rfl)⟩
      intro y hy
      rcases List.mem_cons.1 hy with h | h
      ·rw [h]; exact zj7 hxb hr
      ·exact hqb y h
    ·exact ⟨_, [], 0, _, rfl, Nat.le_refl _, by simp, by simp, by omega, by simp [valB], hxc, by simpa using ho6, hr7, (by simp only [sG, Nat.reduceEqDiff, g1] <;> rfl), (by simp only [sG, Nat.reduceEqDiff, g2] <;> rfl), (by simp only [sG, Nat.reduceEqDiff, g6] <;> rfl), (by simp only [sG, Nat.reduceEqDiff, g7] <;> rfl), (by simp only [sB, Nat.reduceEqDiff] <;> rfl), (by simp only [sG, Nat.reduceEqDiff] <;> rfl)⟩
  ·exact ⟨_, M0, [], .slice (some ⟨b, 0, none⟩) M0.length c2, _, _, rfl, rfl, hLm, by omega, hlast, by rw [hvm]; rfl, fun _ => by rw [hvm]; simp, by simp, by simp, hx4, .inr ⟨b, c2, ho, by simp⟩, RepO.empty, (by simp only [sG, Nat.reduceEqDiff, reduceCtorEq] <;> rfl), (by simp only [sG, Nat.reduceEqDiff, reduceCtorEq] <;> rfl), (by simp only [sG, Nat.reduceEqDiff, reduceCtorEq] <;> rfl), (by simp only [sG, Nat.reduceEqDiff, reduceCtorEq] <;> rfl)⟩
theorem zo5 (a : Nat) : (a : Int).tmod 2 = ((a % 2 : Nat) : Int) := rfl
theorem zo6 (a : Nat) : (a : Int).tdiv 2 = ((a / 2 : Nat) : Int) := rfl
def bitsOK (L : List Nat) : Prop := (∀ y ∈ L, y < 2) ∧ L.getLast? ≠ some 0
theorem zjc {L : List Nat} (h : bitsOK L) : nbits (valB 2 L) = L.length := by
  rcases List.eq_nil_or_concat L with rfl | ⟨l, x, rfl⟩
  · rfl
  · rw [List.concat_eq_append] at *
    have hx : x ≠ 0 := by have := h.2; simpa using this
    have hx2 : x < 2 := h.1 x (by simp)
    have hx1 : x = 1 := by omega
    subst hx1
    have := z77 (l := l) (x := 1) (e := 1) (fun y hy => h.1 y (by simp [hy])) (by omega)
    rw [show (2 : Nat) ^ 1 = 2 from rfl] at this
    rw [this]
    have h1 : nbits 1 = 1 := by decide
    rw [h1]; simp
set_option maxHeartbeats 2000000 in
theorem zha {s : ByteArray} (hs : s.size ≤ 9223372036854775807) {H : Heap} (hw : H.wf) :
    EvF Tryz.prog okT 95 [.string s, .int .i64 10] H fun v H' => ParseT H' i64V 2 (bl s) v ∧ HX H H' := by
  refine EvF.enter rfl Tryz.func95 (by decide) rfl ?_
  (repeat refine ya ?_); refine yb ?_; simp (disch := first | omega | rfl) only [sA, initTm, dAlloc, zj6]
  have hx0 := (HX.refl hw).new (some (.row [.bool false, .slice none 0 0] 132))
  obtain ⟨H1, hH1⟩ : ∃ H1, H1 = H.new (some (.row [.bool false, .slice none 0 0] 132)) := ⟨_, rfl⟩
  have hn1 : H1.next = H.next + 1 := by rw [hH1]; rfl
  have hg1 : H1.get H.next = some (.row [.bool false, .slice none 0 0] 132) := by rw [hH1]; exact z0o
  rw [← hH1] at hx0 ⊢
  (repeat refine ya ?_); refine yb ?_; simp (disch := first | omega | rfl) only [sB, Nat.reduceEqDiff, reduceCtorEq, decide_eq_false, Bool.false_eq_true]
  (repeat refine ya ?_); refine yi (by simp (disch := first | omega | rfl) only [sB, Nat.reduceEqDiff, reduceCtorEq]) ?_; (try refine ye ?_); (try simp only [z02, z09])
  (repeat refine ya ?_)
  refine EvC.join (fun st => ∃ tm, st = ⟨tm, [], H1⟩ ∧ tm.get 0 = some (.string s) ∧ tm.get 1 = some (.int .i64 10) ∧ tm.get 4 = some (.pointer (some ⟨H.next, 0, none⟩)) ∧ tm.get 6 = some (.bool (negS (bl s)))) ?_ ?_
  · by_cases h0 : s.size = 0
    · have hb : negS (bl s) = false := by
        have : bl s = [] := List.length_eq_zero_iff.1 (by rw [z20]; exact h0)
        rw [this]; rfl
      rw [hb]
      (repeat refine ya ?_); refine yb ?_; simp (disch := first | omega | rfl) only [sB, Nat.reduceEqDiff, reduceCtorEq, ln9, decide_eq_false, Bool.false_eq_true]
      exact ⟨_, rfl, (by simp only [sG, reduceCtorEq] <;> rfl), (by simp only [sG, Nat.reduceEqDiff, reduceCtorEq] <;> rfl), (by simp only [sG, Nat.reduceEqDiff, reduceCtorEq] <;> rfl), (by simp only [sG, Nat.reduceEqDiff, reduceCtorEq] <;> rfl)⟩
    · have hb : negS (bl s) = (byteAt s 0 == 45) := by
        have := z8a s (i := 0) (by omega)
        unfold negS
        rw [List.head?_eq_getElem?, this]; simp
      rw [hb]
      by_cases h45 : byteAt s 0 = 45
      · (repeat refine ya ?_); refine yb ?_; simp (disch := first | omega | rfl) only [sB, Nat.reduceEqDiff, reduceCtorEq, Int.reduceToNat, ln9, decide_eq_true, iy9, z1z]
        exact ⟨_, rfl, (by simp only [sG, reduceCtorEq] <;> rfl), (by simp only [sG, Nat.reduceEqDiff, reduceCtorEq] <;> rfl), (by simp only [sG, Nat.reduceEqDiff, reduceCtorEq] <;> rfl), by simp only [sB, Nat.reduceEqDiff, reduceCtorEq]; first | rfl | simp [h45]⟩
      · (repeat refine ya ?_); refine yb ?_; simp (disch := first | omega | rfl) only [sB, Nat.reduceEqDiff, reduceCtorEq, Int.reduceToNat, ln9, decide_eq_true, iy9, z0x]
        exact ⟨_, rfl, (by simp only [sG, reduceCtorEq] <;> rfl), (by simp only [sG, Nat.reduceEqDiff, reduceCtorEq] <;> rfl), (by simp only [sG, Nat.reduceEqDiff, reduceCtorEq] <;> rfl), by simp only [sB, Nat.reduceEqDiff, reduceCtorEq]; first | rfl | simp [h45]⟩
  rintro st ⟨tm, rfl, g0, g1, g4, g6⟩
  try simp (disch := first | omega | rfl) only [z02]
  (repeat refine ya ?_); refine yb ?_; simp (disch := first | omega | rfl) only [sA, g6]
  (repeat refine ya ?_)
  have hbody : bodyS (bl s) = if negS (bl s) then (bl s).tail else bl s := rfl
  refine EvC.join (fun st => ∃ tm s', st = ⟨tm, [], H1⟩ ∧ bl s' = bodyS (bl s) ∧ s'.size ≤ 9223372036854775807 ∧ tm.get 0 = some (.string s') ∧ tm.get 1 = some (.int .i64 10) ∧ tm.get 4 = some (.pointer (some ⟨H.next, 0, none⟩)) ∧ tm.get 6 = some (.bool (negS (bl s)))) ?_ ?_
  · cases hneg : negS (bl s) with
    | true =>
      have h1 : 1 ≤ s.size := by
        rw [← z20]
        cases hb : bl s with
        | nil => rw [hb] at hneg; simp [negS] at hneg
        | cons x l => simp
      have hsl : dSl Tryz.prog 9 (.string s) (some (.int .i64 1)) none none H1 = some (.val (.string (s.extract 1 s.size)) H1) := z83 (l := 1) us9 h1
      rw [hneg] at g6 hbody
      refine yh (by simp only [sB] <;> rfl) ?_
      (repeat refine ya ?_); refine yb ?_; simp (disch := first | omega | rfl) only [sB, Nat.reduceEqDiff, reduceCtorEq, g0, hsl]
      refine ⟨_, s.extract 1 s.size, rfl, ?_, ?_, (by simp only [sG, reduceCtorEq] <;> rfl), (by simp only [sG, Nat.reduceEqDiff, reduceCtorEq, g1] <;> rfl), (by simp only [sG, Nat.reduceEqDiff, reduceCtorEq, g4] <;> rfl), (by simp only [sG, Nat.reduceEqDiff, reduceCtorEq, g6] <;> rfl)⟩
      · rw [z8b, hbody, List.take_of_length_le (by rw [z20]; exact Nat.le_refl _)]
        simp
      · have : (s.extract 1 s.size).size ≤ s.size := by rw [ByteArray.size_extract]; omega
        omega
    | false =>
      rw [hneg] at g6 hbody
      refine yi (by simp only [sB] <;> rfl) (ye ?_)
      try simp (disch := first | omega | rfl) only [z02]
      exact ⟨_, s, rfl, by rw [hbody]; rfl, hs, (by simp only [sG, reduceCtorEq, g0] <;> rfl), (by simp only [sG, Nat.reduceEqDiff, g1] <;> rfl), (by simp only [sG, Nat.reduceEqDiff, g4] <;> rfl), (by simp only [sG, Nat.reduceEqDiff, g6] <;> rfl)⟩
  clear g0 g1 g4 g6
  rintro st ⟨tm1, s', rfl, hbl, hs', g0, g1, g4, g6⟩
  clear tm
  generalize hneg : negS (bl s) = neg at g6
  by_cases hsz : s'.size = 0
  · repeat' (first | refine ya ?_ | refine yg ?_ | refine yd ?_ | (refine ye ?_) | (refine yf ?_) | (refine yc ?_; try simp only [z01, z00]) | (refine yb ?_; simp (disch := first | omega | rfl) only [sB, Nat.reduceEqDiff, Nat.reduceAdd, Value.cells, one, layC, zfb, z9b, g0, g4, z64, decide_eq_true, hg1]) | (refine yh ?_ ?_; simp (disch := first | omega | rfl) only [sB, Nat.reduceEqDiff]; refine z03 ?_))
    refine z0l rfl (by simp only [sB, Nat.reduceEqDiff, g4] <;> rfl) (by simp only [sB, Nat.reduceAdd, cutC, zam] <;> rfl) (by simp only [sG, Nat.reduceEqDiff] <;> rfl) ⟨.inl ⟨?_, 12, by omega, rfl⟩, hx0.put (Nat.le_refl _) (by omega) _⟩
    have : bodyS (bl s) = [] := by rw [← hbl]; exact List.length_eq_zero_iff.1 (by rw [z20]; exact hsz)
    unfold parseD
    rw [if_pos this]
  try simp (disch := first | omega | rfl) only [z02]
  (repeat refine ya ?_); refine yb ?_; simp (disch := first | omega | rfl) only [sB, g0, z64, decide_eq_false]
  (repeat refine ya ?_); refine yi (by simp (disch := first | omega | rfl) only [sB, Nat.reduceEqDiff]) ?_; (try refine ye ?_); (try simp only [z02, z09])
  (repeat refine ya ?_); refine yb ?_; simp (disch := first | omega | rfl) only [sA]
  (repeat refine ya ?_)
  refine EvC.join (fun st => ∃ tm, st = ⟨tm, [], H1⟩ ∧ (bodyS (bl s)).any (fun x => 10 ≤ digV x) = false ∧ tm.get 0 = some (.string s') ∧ tm.get 1 = some (.int .i64 10) ∧ tm.get 4 = some (.pointer (some ⟨H.next, 0, none⟩)) ∧ tm.get 6 = some (.bool neg)) ?_ ?_
  · refine yd (yk (fun k st => ∃ tm i, st = ⟨tm, [], H1⟩ ∧ k = s'.size - i ∧ i ≤ s'.size ∧ (∀ x ∈ (bl s').take i, digV x < 10) ∧ tm.get 0 = some (.string s') ∧ tm.get 1 = some (.int .i64 10) ∧ tm.get 4 = some (.pointer (some ⟨H.next, 0, none⟩)) ∧ tm.get 6 = some (.bool neg) ∧ tm.get 7 = some (.int .i64 (i : Nat))) ?_ s'.size _ ?_)
    · rintro k st ⟨tm, i, rfl, hk, hi, hall, f0, f1, f4, f6, f7⟩
      by_cases hlt : i < s'.size
      · have hgi := z8a s' hlt
        repeat' (first | refine ya ?_ | refine yg ?_ | refine yd ?_ | (refine ye ?_; try simp only [z02]) | (refine yf ?_) | (refine yc ?_; try simp only [z01, z00]) | (refine yb ?_; simp (disch := first | omega | rfl) only [sB, Nat.reduceEqDiff, reduceCtorEq, ln9, ix9, cl97, f0, f1, f7, decide_eq_true]) | (refine yh ?_ ?_; simp (disch := first | omega | rfl) only [sB, Nat.reduceEqDiff]; refine z03 ?_))
        refine (ze5 (fun _ _ => rfl) (by decide) _ (z54 s' i) H1).mono ?_
        rintro v H' ⟨rfl, rfl⟩
        by_cases hd : 10 ≤ digV (byteAt s' i)
        · repeat' (first | refine ya ?_ | refine yg ?_ | refine yd ?_ | (refine ye ?_) | (refine yf ?_) | (refine yc ?_; try simp only [z01, z00]) | (refine yb ?_; simp (disch := first | omega | rfl) only [sB, Nat.reduceEqDiff, Nat.reduceAdd, Value.cells, one, layC, zfb, z9b, f4, hg1]) | (refine z0w ?_; simp (disch := first | omega | rfl) only [sA, decide_eq_true]) | (refine yh ?_ ?_; simp (disch := first | omega | rfl) only [sB, Nat.reduceEqDiff]; refine z03 ?_))
          refine z0l rfl (by simp only [sB, Nat.reduceEqDiff, f4] <;> rfl) (by simp only [sB, Nat.reduceAdd, cutC, zam] <;> rfl) (by simp only [sG, Nat.reduceEqDiff] <;> rfl) ⟨.inl ⟨?_, 12, by omega, rfl⟩, ?_⟩
          · have hm : byteAt s' i ∈ bodyS (bl s) := by rw [← hbl]; exact List.mem_of_getElem? hgi
            unfold parseD
            rw [if_neg (fun h => by rw [h] at hm; cases hm), if_pos (List.any_eq_true.2 ⟨_, hm, decide_eq_true hd⟩)]
          · exact hx0.put (Nat.le_refl _) (by omega) _
        · repeat' (first | refine ya ?_ | refine yg ?_ | refine yd ?_ | (refine ye ?_; try simp only [sA]) | (refine yf ?_) | (refine yc ?_; try simp only [z01, z00]) | (refine yb ?_; simp (disch := first | omega | rfl) only [sB, Nat.reduceEqDiff, f7, z06]) | (refine z0w ?_; simp (disch := first | omega | rfl) only [sA, decide_eq_false]) | (refine yh ?_ ?_; simp (disch := first | omega | rfl) only [sB, Nat.reduceEqDiff]; refine z03 ?_) | (refine yi ?_ ?_; simp (disch := first | omega | rfl) only [sB, Nat.reduceEqDiff]; refine z03 ?_))
          refine ⟨s'.size - (i + 1), by omega, _, i + 1, rfl, rfl, by omega, fun x hx => ?_, (by simp only [sG, reduceCtorEq, f0] <;> rfl), (by simp only [sG, Nat.reduceEqDiff, f1] <;> rfl), (by simp only [sG, Nat.reduceEqDiff, f4] <;> rfl), (by simp only [sG, Nat.reduceEqDiff, f6] <;> rfl), (by simp only [sB, Nat.reduceEqDiff] <;> rfl)⟩
          rw [List.take_add_one, hgi] at hx
          rcases List.mem_append.1 hx with h | h
          · exact hall x h
          · simp at h; rw [h]; omega
      · repeat' (first | refine ya ?_ | refine yg ?_ | refine yd ?_ | (refine ye ?_) | (refine yf ?_; try simp only [sB]) | (refine yc ?_; try simp only [z01, z00]) | (refine yb ?_; simp (disch := first | omega | rfl) only [sB, Nat.reduceEqDiff, reduceCtorEq, ln9, f0, f7, decide_eq_false]) | (refine yh ?_ ?_; simp (disch := first | omega | rfl) only [sB, Nat.reduceEqDiff]; refine z03 ?_) | (refine yi ?_ ?_; simp (disch := first | omega | rfl) only [sB, Nat.reduceEqDiff]; refine z03 ?_))
        refine ⟨_, rfl, ?_, (by simp only [sG, reduceCtorEq, f0] <;> rfl), (by simp only [sG, Nat.reduceEqDiff, f1] <;> rfl), (by simp only [sG, Nat.reduceEqDiff, f4] <;> rfl), (by simp only [sG, Nat.reduceEqDiff, f6] <;> rfl)⟩
        rw [List.any_eq_false]
        intro x hx
        rw [← hbl] at hx
        have := hall x (by rw [List.take_of_length_le (by rw [z20]; omega)]; exact hx)
        simp; omega
    · exact ⟨_, 0, rfl, by omega, by omega, by simp, (by simp only [sG, reduceCtorEq, g0] <;> rfl), (by simp only [sG, Nat.reduceEqDiff, g1] <;> rfl), (by simp only [sG, Nat.reduceEqDiff, g4] <;> rfl), (by simp only [sG, Nat.reduceEqDiff, g6] <;> rfl), (by simp only [sB, Nat.reduceEqDiff] <;> rfl)⟩
  clear g0 g1 g4 g6 tm1
  rintro st ⟨tm, rfl, hany, g0, g1, g4, g6⟩
  have hpd : parseD (bl s) = numD ((bl s').map digV) 0 := by
    have : bodyS (bl s) ≠ [] := by rw [← hbl]; intro h; have := congrArg List.length h; rw [z20] at this; exact hsz this
    unfold parseD
    rw [if_neg this, if_neg (by rw [hany]; simp), hbl]
  have hdl : ∀ x ∈ bl s', digV x < 10 := by
    rw [← hbl, List.any_eq_false] at hany
    intro x hx
    have := hany x hx
    simp at this; omega
  repeat' (first | refine ya ?_ | refine yg ?_ | refine yd ?_ | (refine ye ?_) | (refine yf ?_) | (refine yc ?_; try simp only [z01, z00]) | (refine yb ?_; simp (disch := first | omega | rfl) only [sA]))
  refine yk (fun k st => ∃ tm i n L v Hc, st = ⟨tm, [], Hc⟩ ∧ k = s'.size - i ∧ i ≤ s'.size ∧ ((n < big ∧ numD (((bl s').map digV).drop i) n = numD ((bl s').map digV) 0) ∨ (big ≤ n ∧ numD ((bl s').map digV) 0 = none)) ∧ valB 2 L = n ∧ bitsOK L ∧ L.length ≤ 4106 ∧ HX H1 Hc ∧
    RepO Hc 3 1 H1.next (L.map fun x => [i64V x]) v ∧ tm.get 0 = some (.string s') ∧ tm.get 1 = some (.int .i64 10) ∧ tm.get 4 = some (.pointer (some ⟨H.next, 0, none⟩)) ∧ tm.get 6 = some (.bool neg) ∧ tm.get 8 = some v ∧
    tm.get 9 = some (.int .i64 (i : Nat))) ?_ s'.size _ ?_
  · clear g0 g1 g4 g6 tm
    rintro k st ⟨tm, i, n, L, v, Hc, rfl, hk, hi, hnum, hval, hL, hLl, hxc, hrep, g0, g1, g4, g6, g8, g9⟩
    have hbits := zjc hL
    obtain ⟨a, c, rfl, hLc, hcm⟩ := hrep.slice
    rw [List.length_map] at hLc g8 hrep
    have hcm' : c ≤ 9223372036854775807 := hcm
    by_cases hlt : i < s'.size ∧ L.length ≤ 4096
    · obtain ⟨hlt, hl4⟩ := hlt
      have hgi := z8a s' hlt
      have hdi : digV (byteAt s' i) < 10 := hdl _ (List.mem_of_getElem? hgi)
      repeat' (first | refine ya ?_ | refine yg ?_ | refine yd ?_ | (refine ye ?_; try simp only [z02]) | (refine yf ?_) | (refine yc ?_; try simp only [z01, z00]) | (refine yb ?_; simp (disch := first | omega | rfl) only [sB, Nat.reduceEqDiff, reduceCtorEq, ln9, ix9, cl97, ln42, g0, g8, g9, decide_eq_true]) | (refine yh ?_ ?_; simp (disch := first | omega | rfl) only [sB, Nat.reduceEqDiff]; refine z03 ?_))
      refine (ze5 (fun _ _ => rfl) (by decide) _ (z54 s' i) Hc).mono ?_
      rintro v' H' ⟨rfl, rfl⟩
      repeat' (first | refine ya ?_ | refine yg ?_ | refine yd ?_ | (refine ye ?_) | (refine yf ?_) | (refine yc ?_; try simp only [z01, z00]) | (refine yb ?_; simp (disch := first | omega | rfl) only [sA]))
      have hxw := hxc.wf
      refine yk (fun k' st => ∃ (tm : Tr Value) (k : Nat) (d : List Nat) (cy : Nat) (v : Value) (Hd : Heap), st = ⟨tm, [], Hd⟩ ∧ k' = (L.length - k) * 20 + cy ∧ d.length = k ∧ (∀ y ∈ d, y < 2) ∧ cy < 10 ∧ k + cy ≤ L.length + 10 ∧
        valB 2 d + 2 ^ k * (10 * valB 2 (L.drop k) + cy) = 10 * valB 2 L + digV (byteAt s' i) ∧ HX H' Hd ∧
        RepO Hd 3 1 H'.next (d.map fun x => [i64V x]) v ∧ tm.get 0 = some (.string s') ∧ tm.get 1 = some (.int .i64 10) ∧ tm.get 4 = some (.pointer (some ⟨H.next, 0, none⟩)) ∧ tm.get 6 = some (.bool neg) ∧
        tm.get 8 = some (.slice a L.length c) ∧ tm.get 9 = some (.int .i64 (i : Nat)) ∧ tm.get 10 = some (.int .i64 (cy : Nat)) ∧ tm.get 11 = some v ∧ tm.get 12 = some (.int .i64 (k : Nat))) ?_ ((L.length - 0) * 20 + digV (byteAt s' i)) _ ?_
      · clear g0 g1 g4 g6 g8 g9 tm
        rintro k2 st ⟨tm, k, d, cy, v, Hd, rfl, hk2, hdk, hdb, hcy, hkc, hinv, hxd, hrd, g0, g1, g4, g6, g8, g9, g10, g11, g12⟩
        have hrb := (hrep.keep hxd)
        obtain ⟨-, hrds⟩ := RepO.rds' (vs := L.map i64V) (by rw [List.map_map]; exact hrb)
        by_cases hgo : k < L.length ∨ 0 < cy
        · obtain ⟨x, hx⟩ : ∃ x, x = L.getD k 0 := ⟨_, rfl⟩
          have hxb : x < 2 := by
            rw [hx, List.getD_eq_getElem?_getD]
            cases hg : L[k]? with
            | none => simp
            | some y => exact hL.1 y (List.mem_of_getElem? hg)
          have hinv2 : valB 2 d + 2 ^ d.length * (10 * valB 2 (x :: L.drop (k + 1)) + cy) = 10 * valB 2 L + digV (byteAt s' i) := by
            rw [← hinv, hdk]
            by_cases hkl : k < L.length
            · rw [List.drop_eq_getElem_cons hkl, hx, List.getD_eq_getElem?_getD, List.getElem?_eq_getElem hkl]; rfl
            · rw [List.drop_of_length_le (show L.length ≤ k by omega), List.drop_of_length_le (show L.length ≤ k + 1 by omega), hx, List.getD_eq_getElem?_getD, List.getElem?_eq_none (by omega)]; rfl
          rw [← zh3, hdk] at hinv2
          have e1 : ((x : Int) * 10 + (cy : Int)) = ((x * 10 + cy : Nat) : Int) := by omega
          have hgd := znf (fun _ _ => rfl) (by decide) (k := k) hrds (ok := okT)
          rw [← hx] at hgd
          obtain ⟨H5, v5, hap, hrd5, hn5, hx5, hk5⟩ := hrd.push ap42 (y := [i64V ((x * 10 + cy) % 2)]) rfl rfl (by simp [most]; omega) hxd.next
          unfold i64V at hap
          have hq : (x * 10 + cy) / 2 < 10 := by omega
          have hd2 : ((d ++ [(x * 10 + cy) % 2]).map fun x => [i64V x]) = (d.map fun x => [i64V x]) ++ [[i64V ((x * 10 + cy) % 2)]] := by simp
          rcases Nat.lt_or_ge k L.length with hkl | hkl
          all_goals
            repeat' (first | refine ya ?_ | refine yg ?_ | refine yd ?_ | (refine ye ?_; try simp only [z02]) | (refine yf ?_) | (refine yc ?_; try simp only [z01, z00]) | (refine yb ?_; simp (disch := first | omega | rfl) only [sB, Nat.reduceEqDiff, ln42, cl98, g8, g10, g12, decide_eq_true, decide_eq_false, Bool.false_eq_true]) | (refine yh ?_ ?_; simp (disch := first | omega | rfl) only [sB, Nat.reduceEqDiff]; refine z03 ?_))
            refine hgd.mono ?_
            rintro v H2 ⟨rfl, rfl⟩
            repeat' (first | refine ya ?_ | refine yg ?_ | refine yd ?_ | (refine ye ?_) | (refine yf ?_) | (refine yc ?_; try simp only [z01, z00]) | (refine yb ?_; simp (disch := first | omega | rfl) only [sB, Nat.reduceEqDiff, Value.cells, one, layC, zl0, g11, g12, z06, bRem, bQuo, zo5, zo6, hap]) | (refine z0w ?_; simp (disch := first | omega | rfl) only [sB, Nat.reduceEqDiff, g1, g10, e1, z06]))
            refine ⟨(L.length - (k + 1)) * 20 + (x * 10 + cy) / 2, ?_, _, k + 1, d ++ [(x * 10 + cy) % 2], (x * 10 + cy) / 2, _, _, rfl, rfl, by simp [hdk], ?_, hq, ?_, by rw [← hinv2], hx5 _ hxd (Nat.le_refl _), by rw [hd2]; exact hrd5, (by simp only [sG, reduceCtorEq, g0] <;> rfl), (by simp only [sG, Nat.reduceEqDiff, g1] <;> rfl), (by simp only [sG, Nat.reduceEqDiff, g4] <;> rfl), (by simp only [sG, Nat.reduceEqDiff, g6] <;> rfl), (by simp only [sG, Nat.reduceEqDiff, g8] <;> rfl), (by simp only [sG, Nat.reduceEqDiff, g9] <;> rfl), (by simp only [sG, Nat.reduceEqDiff] <;> rfl), (by simp only [sG, Nat.reduceEqDiff] <;> rfl), (by simp only [sB, Nat.reduceEqDiff] <;> rfl)⟩
            · first | omega | (have : x = 0 := by rw [hx, List.getD_eq_getElem?_getD, List.getElem?_eq_none (by omega)]; rfl
                               omega)
            · intro y hy
              rcases List.mem_append.1 hy with h | h
              · exact hdb y h
              · simp at h; omega
            · first | omega | (have : x = 0 := by rw [hx, List.getD_eq_getElem?_getD, List.getElem?_eq_none (by omega)]; rfl
                               omega)
        · have hkl : L.length ≤ k := by omega
          have hc0 : cy = 0 := by omega
          subst hc0
          rw [List.drop_of_length_le hkl] at hinv
          simp only [valB, Nat.mul_zero, Nat.add_zero] at hinv
          rw [hval] at hinv
          obtain ⟨a5, c5, rfl, -, -⟩ := hrd.slice
          rw [List.length_map] at g11 hrd
          obtain ⟨-, hrds5⟩ := RepO.rds' (vs := d.map i64V) (by rw [List.map_map]; exact hrd)
          repeat' (first | refine ya ?_ | refine yg ?_ | refine yd ?_ | (refine ye ?_) | (refine yf ?_; try simp only [sB, Nat.reduceEqDiff]) | (refine yc ?_; try simp only [z01, z00]) | (refine yb ?_; simp (disch := first | omega | rfl) only [sB, Nat.reduceEqDiff, ln42, cl99, g8, g10, g11, g12, decide_eq_false, Bool.false_eq_true]) | (refine yh ?_ ?_; simp (disch := first | omega | rfl) only [sB, Nat.reduceEqDiff]; refine z03 ?_) | (refine yi ?_ ?_; simp (disch := first | omega | rfl) only [sB, Nat.reduceEqDiff]; refine z03 ?_))
          refine (zh7 (fun _ _ => rfl) (by decide) hrds5).mono ?_
          rintro v H2 ⟨m, rfl, hm, hz, hn0, rfl⟩
          repeat' (first | refine ya ?_ | refine yg ?_ | refine yd ?_ | (refine ye ?_) | (refine yf ?_) | (refine yc ?_; try simp only [z01, z00]) | (refine yb ?_; simp (disch := first | omega | rfl) only [sB, Nat.reduceEqDiff, g9, z06]))
          have hvm : valB 2 (d.take m) = n * 10 + digV (byteAt s' i) := by rw [z3w hz, hinv]; omega
          have hnumi : n < big → numD ((bl s').map digV) 0 = if big ≤ n * 10 + digV (byteAt s' i) then none else numD (((bl s').map digV).drop (i + 1)) (n * 10 + digV (byteAt s' i)) := by
            intro hnb
            rcases hnum with ⟨_, hnum⟩ | ⟨h, _⟩
            · rw [← hnum, List.drop_eq_getElem_cons (by simp [z20]; omega), numD]
              have : ((bl s').map digV)[i]'(by simp [z20]; omega) = digV (byteAt s' i) := by
                apply Option.some.inj
                rw [← List.getElem?_eq_getElem, List.getElem?_map, hgi]; rfl
              rw [this]
            · omega
          have hnb : n < big := by
            rcases Nat.lt_or_ge n big with h | h
            · exact h
            · have := z2c.2 h
              rw [← hval, hbits] at this
              omega
          refine ⟨s'.size - (i + 1), by omega, _, i + 1, n * 10 + digV (byteAt s' i), d.take m, _, _, rfl, rfl, by omega, ?_, hvm, ⟨fun y hy => hdb y (List.mem_of_mem_take hy), ?_⟩, by rw [List.length_take]; omega, hxc.trans hxd,
            by rw [List.map_take]; exact (hrd.takeR (m := m) (by simpa using hm)).low hxc.next, (by simp only [sG, reduceCtorEq, g0] <;> rfl), (by simp only [sG, Nat.reduceEqDiff, g1] <;> rfl), (by simp only [sG, Nat.reduceEqDiff, g4] <;> rfl), (by simp only [sG, Nat.reduceEqDiff, g6] <;> rfl), (by simp only [sG, Nat.reduceEqDiff] <;> rfl), (by simp only [sB, Nat.reduceEqDiff] <;> rfl)⟩
          · by_cases hb : big ≤ n * 10 + digV (byteAt s' i)
            · exact .inr ⟨hb, by rw [hnumi hnb, if_pos hb]⟩
            · exact .inl ⟨Nat.lt_of_not_le hb, by rw [hnumi hnb, if_neg hb]⟩
          · rw [List.getLast?_eq_getElem?, List.length_take, Nat.min_eq_left hm]
            by_cases h0 : m = 0
            · subst h0; simp
            · rw [List.getElem?_take, if_pos (by omega)]; exact hn0 h0
      · exact ⟨_, 0, [], digV (byteAt s' i), _, _, rfl, rfl, rfl, by simp, hdi, by omega, by simp [valB], HX.refl hxw, RepO.empty, (by simp only [sG, reduceCtorEq, g0] <;> rfl), (by simp only [sG, Nat.reduceEqDiff, g1] <;> rfl), (by simp only [sG, Nat.reduceEqDiff, g4] <;> rfl), (by simp only [sG, Nat.reduceEqDiff, g6] <;> rfl), (by simp only [sG, Nat.reduceEqDiff, g8] <;> rfl), (by simp only [sG, Nat.reduceEqDiff, g9] <;> rfl), (by simp only [sG, Nat.reduceEqDiff] <;> rfl), (by simp only [sG, Nat.reduceEqDiff] <;> rfl), (by simp only [sB, Nat.reduceEqDiff] <;> rfl)⟩
    · by_cases hl4 : L.length ≤ 4096
      · have hi' : i = s'.size := by omega
        have hnb : n < big := by
          rcases Nat.lt_or_ge n big with h | h
          · exact h
          · have := z2c.2 h
            rw [← hval, hbits] at this
            omega
        have hnn : numD ((bl s').map digV) 0 = some n := by
          rcases hnum with ⟨_, hnum⟩ | ⟨h, _⟩
          · rw [← hnum, List.drop_of_length_le (by simp [z20]; omega), numD]
          · omega
        obtain ⟨-, hr⟩ := RepO.rds' (vs := L.map i64V) (by rw [List.map_map]; exact hrep)
        repeat' (first | refine ya ?_ | refine yg ?_ | refine yd ?_ | (refine ye ?_; try simp only [z02]) | (refine yf ?_; try simp only [sB]) | (refine yc ?_; try simp only [z01, z00]) | (refine yb ?_; simp (disch := first | omega | rfl) only [sB, Nat.reduceEqDiff, reduceCtorEq, ln9, ln42, zo4, g0, g9, g6, g8, decide_eq_false, Bool.false_eq_true]) | (refine yh ?_ ?_; simp (disch := first | omega | rfl) only [sB, Nat.reduceEqDiff]; refine z03 ?_) | (refine yi ?_ ?_; simp (disch := first | omega | rfl) only [sB, Nat.reduceEqDiff]; refine z03 ?_))
        refine (zja hr hxc.wf).mono ?_
        rintro v H2 ⟨m, rfl, hm, hz, hn0, hx2⟩
        have hg2 : H2.get H.next = some (.row [.bool false, .slice none 0 0] 132) := by rw [(hxc.trans hx2).keep _ (by omega)]; exact hg1
        repeat' (first | refine ya ?_ | refine yg ?_ | refine yd ?_ | (refine ye ?_) | (refine yf ?_) | (refine yc ?_; try simp only [z01, z00]) | (refine z0w ?_; simp (disch := first | omega | rfl) only [sB, Nat.reduceAdd, one, z9b, g4, hg2]))
        have hx3 := hxc.trans hx2
        have hm' : m = L.length := by
          rcases Nat.lt_or_ge m L.length with h | h
          · have := hz (L[L.length - 1]'(by omega)) (List.mem_drop_iff_getElem.2 ⟨L.length - 1 - m, by omega, by congr 1; omega⟩)
            have h2 := hL.2
            rw [List.getLast?_eq_getElem?, List.getElem?_eq_getElem (by omega), this] at h2
            exact absurd rfl h2
          · omega
        subst hm'
        refine z0l rfl (by simp only [sB, Nat.reduceEqDiff, g4] <;> rfl) (by simp only [sB, Nat.reduceAdd, cutC, zam] <;> rfl) (by simp only [sB, Nat.reduceEqDiff] <;> rfl) ⟨.inr ⟨n, L, a, c, by rw [hpd, hnn], by rw [hneg], ?_, hL.1, hval, hL.2, hl4⟩, (hx0.trans hx3).put (Nat.le_refl _) (by have := hx3.next; omega) _⟩
        have h3 := (hrep.keep hx2).putlo (i := H.next) (by omega) (some (.row [.bool (neg && decide (0 < L.length)), .slice a L.length c] 132))
        exact (RepO.rds' (vs := L.map i64V) (by rw [List.map_map]; exact h3)).2
      · have hnn : numD ((bl s').map digV) 0 = none := by
          have hb : big ≤ n := by
            rw [← z2c, ← hval, hbits]; omega
          rcases hnum with ⟨h, _⟩ | ⟨_, h⟩
          · omega
          · exact h
        have hg2 : Hc.get H.next = some (.row [.bool false, .slice none 0 0] 132) := by rw [hxc.keep _ (by omega)]; exact hg1
        by_cases hlt' : i < s'.size
        all_goals
          repeat' (first | refine ya ?_ | refine yg ?_ | refine yd ?_ | (refine ye ?_) | (refine yf ?_; try simp only [sB]) | (refine yc ?_; try simp only [z01, z00]) | (refine yb ?_; simp (disch := first | omega | rfl) only [sB, Nat.reduceEqDiff, Nat.reduceAdd, Value.cells, one, reduceCtorEq, layC, zfb, z9b, ln9, ln42, g0, g4, g9, g8, decide_eq_true, decide_eq_false, Bool.false_eq_true, hg2]) | (refine yh ?_ ?_; simp (disch := first | omega | rfl) only [sB, Nat.reduceEqDiff]; refine z03 ?_) | (refine yi ?_ ?_; simp (disch := first | omega | rfl) only [sB, Nat.reduceEqDiff]; refine z03 ?_))
          refine z0l rfl (by simp only [sB, Nat.reduceEqDiff, g4] <;> rfl) (by simp only [sB, Nat.reduceAdd, cutC, zam] <;> rfl) (by simp only [sG, Nat.reduceEqDiff] <;> rfl) ⟨.inl ⟨?_, 10, by omega, rfl⟩, (hx0.trans hxc).put (Nat.le_refl _) (by have := hxc.next; omega) _⟩
          rw [hpd, hnn]
  · exact ⟨_, 0, 0, [], _, _, rfl, by omega, by omega, .inl ⟨by rw [z5z]; exact Nat.two_pow_pos _, by simp⟩, rfl, ⟨by simp, by simp⟩, by simp, HX.refl hx0.wf, RepO.empty, (by simp only [sG, reduceCtorEq, g0] <;> rfl), (by simp only [sG, Nat.reduceEqDiff, g1] <;> rfl), (by simp only [sG, Nat.reduceEqDiff, g4] <;> rfl), (by simp only [sG, Nat.reduceEqDiff, g6] <;> rfl), (by simp only [sG, Nat.reduceEqDiff] <;> rfl), (by simp only [sB, Nat.reduceEqDiff] <;> rfl)⟩
theorem zjd {H H2 : Heap} {vs : List Value} {a : Option Addr} {c : Nat} (h : RdS H vs a c) (hg : vs ≠ [] → ∀ b o s, a = some ⟨b, o, s⟩ → H2.get b = H.get b) : RdS H2 vs a c :=
 ⟨h.len, h.cap, fun i v hv => by
  obtain ⟨b, o, ha, hl⟩ := h.get i v hv
  refine ⟨b, o, ha, ?_⟩
  have := hg (fun h0 => by rw [h0] at hv; simp at hv) b o none ha
  rw [← hl]
  unfold Heap.load Heap.cells
  rw [this]⟩
theorem znk {H : Heap} {vs : List Value} {a : Option Addr} {c : Nat} (h : RdS H vs a c) (hw : H.wf) (h0 : vs ≠ []) {ad : Addr} (ha : a = some ad) : ad.block < H.next := by
 obtain ⟨v, r, rfl⟩ := List.exists_cons_of_ne_nil h0
 obtain ⟨b', o', ha', hl⟩ := h.get 0 v rfl
 rw [ha] at ha'
 cases ha'
 unfold Heap.load Heap.cells at hl
 cases hg : H.get b' with
 | none => simp only [hg] at hl; cases hl
 | some B => exact hw b' B hg
theorem zfc : ∀ l : List Nat, (∀ y ∈ l, y < 256) → l.map (UInt8.toNat ∘ UInt8.ofNat) = l := by
 intro l hl
 conv => rhs; rw [← List.map_id l]
 apply List.map_congr_left
 intro y hy
 have := hl y hy
 simp [UInt8.toNat_ofNat]
 omega
set_option maxHeartbeats 4000000 in
theorem zje {L : List Nat} {neg : Bool} {a : Option Addr} {c n : Nat} {H : Heap} (hw : H.wf) (r : RdS H (L.map i64V) a c) (hL : ∀ y ∈ L, y < 2) (hlen : L.length ≤ 4096) (hlast : L.getLast? ≠ some 0) (hval : valB 2 L = n) (hn : n < big) :
  EvF Tryz.prog okT 96 [.agg ⟨[.bool neg, .slice a L.length c]⟩, .int .i64 10] H fun v H' => (∃ t : ByteArray, v = .string t ∧ bl t = textD neg n) ∧ HX H H' := by
 refine EvF.enter rfl Tryz.func96 (by decide) rfl ?_
 (repeat refine ya ?_); refine yb ?_; simp (disch := first | omega | rfl) only [sB, initTm, dBox, Value.cells, one, reduceCtorEq]
 have hx0 := (HX.refl hw).new (some (.row [.bool neg, .slice a L.length c] 132))
 obtain ⟨H1, hH1⟩ : ∃ H1, H1 = H.new (some (.row [.bool neg, .slice a L.length c] 132)) := ⟨_, rfl⟩
 have hlb : H1.load ⟨H.next, 0, none⟩ 1 = some [.bool neg] := by rw [hH1]; exact z2a
 have hls : H1.load ⟨H.next, 1, none⟩ 1 = some [.slice a L.length c] := by rw [hH1]; exact z2a
 rw [← hH1] at hx0 ⊢
 have hw1 := hx0.wf
 by_cases h0 : L.length = 0
 ·have hM : L = [] := List.length_eq_zero_iff.1 h0
  subst hM
  repeat' (first | refine ya ?_ | refine yg ?_ | refine yd ?_ | (refine ye ?_) | (refine yf ?_) | (refine yc ?_; try simp only [z01, z00]) | (refine yb ?_; simp (disch := first | omega | rfl) only [sB, Nat.reduceEqDiff, reduceCtorEq, zh0, ld42, ln42, hls, z1z]) | (refine yh ?_ ?_; simp (disch := first | omega | rfl) only [sB, Nat.reduceEqDiff, reduceCtorEq]; refine z03 ?_))
  refine z04 rfl (by simp only [sB, Nat.reduceEqDiff, reduceCtorEq] <;> rfl) ⟨⟨_, rfl, ?_⟩, hx0⟩
  rw [← hval]; rfl
 have hnz := z66 (B := 2) (by omega) (fun h => h0 (by rw [h]; rfl)) hlast
 rw [hval] at hnz
 have hLc : L.length ≤ c := by simpa using r.len
 repeat' (first | refine ya ?_ | refine yg ?_ | refine yd ?_ | (refine ye ?_; try simp only [z02]) | (refine yf ?_) | (refine yc ?_; try simp only [z01, z00]) | (refine yb ?_; simp (disch := first | omega | rfl) only [sB, Nat.reduceEqDiff, reduceCtorEq, zh0, ld42, ln42, hls, z0x]) | (refine yh ?_ ?_; simp (disch := first | omega | rfl) only [sB, Nat.reduceEqDiff, reduceCtorEq]; refine z03 ?_) | (refine yi ?_ ?_; simp (disch := first | omega | rfl) only [sB, Nat.reduceEqDiff, reduceCtorEq]; refine z03 ?_))
 have hr1 := r.keep hx0 hw
 refine yk (fun k st => ∃ (tm : Tr Value) (M od : List Nat) (a : Option Addr) (c : Nat) (v5 : Value) (Hc : Heap), st = ⟨tm, [], Hc⟩ ∧ k = valB 2 M ∧ (∀ y ∈ M, y < 2) ∧ M.length ≤ 4096 ∧ M.getLast? ≠ some 0 ∧ decR n = od ++ decR (valB 2 M) ∧ (M ≠ [] → valB 2 M * 10 ^ od.length ≤ n) ∧ od.length ≤ 4096 ∧
   (∀ y ∈ od, y < 10) ∧ HX H1 Hc ∧ RdS Hc (M.map i64V) a c ∧ (M ≠ [] → ∀ b o s, a = some ⟨b, o, s⟩ → b < H1.next ∨ ∃ cs, Hc.get b = some (.row cs 3)) ∧ RepO Hc 5 1 H1.next (od.map fun x => [u8V (48 + x)]) v5 ∧ tm.get 1 = some (.int .i64 10) ∧ tm.get 2 = some (.pointer (some ⟨H.next, 0, none⟩)) ∧
   tm.get 5 = some v5 ∧ tm.get 6 = some (.slice a M.length c)) ?_ (valB 2 L) _ ?_
 ·clear hr1
  rintro k st ⟨tm, M, od, a, c, v5, Hc, rfl, rfl, hMb, hMl, hMn, hdec, hle, hol, hod, hxc, hrM, hra, hr7, g1, g2, g7, g6⟩
  have hMc : M.length ≤ c := by simpa using hrM.len
  by_cases hM0 : M = []
  ·subst hM0
   have hlbc := hxc.load hw1 hlb
   have hdec' : decR n = od := by rw [hdec]; simp [valB, zan]
   repeat' (first | refine ya ?_ | refine yg ?_ | refine yd ?_ | (refine ye ?_) | (refine yf ?_; try simp only [sB]) | (refine yc ?_; try simp only [z01, z00]) | (refine yb ?_; simp (disch := first | omega | rfl) only [sB, Nat.reduceEqDiff, ln42, zlv, ld4, g2, g6, hlbc, decide_eq_false]) | (refine yh ?_ ?_; simp (disch := first | omega | rfl) only [sB, Nat.reduceEqDiff]; refine z03 ?_) | (refine yi ?_ ?_; simp (disch := first | omega | rfl) only [sB, Nat.reduceEqDiff]; refine z03 ?_))
   refine EvC.join (fun st => ∃ tm o v Hd, st = ⟨tm, [], Hd⟩ ∧ o = (od.map fun x => 48 + x) ++ (if neg then [45] else []) ∧ HX H1 Hd ∧ RepO Hd 5 1 H1.next (o.map fun x => [u8V x]) v ∧ tm.get 5 = some v) ?_ ?_
   ·cases neg with
    | true =>
     obtain ⟨H5, v5, hap, hr7b, -, hx5, -⟩ := hr7.push zgz (y := [u8V 45]) rfl rfl (by simp [most]; omega) hxc.next
     have h45 : u8V 45 = .int .u8 45 := rfl
     rw [h45] at hap
     refine yh (by simp only [sB, Nat.reduceEqDiff] <;> rfl) ?_
     repeat' (first | refine ya ?_ | refine yg ?_ | refine yd ?_ | (refine ye ?_) | (refine yf ?_) | (refine yc ?_; try simp only [z01, z00]) | (refine yb ?_; simp (disch := first | omega | rfl) only [sB, Nat.reduceEqDiff, Value.cells, one, layC, z76, g7, hap]))
     refine ⟨_, _, _, _, rfl, rfl, hx5 _ hxc (Nat.le_refl _), ?_, (by simp only [sB, Nat.reduceEqDiff] <;> rfl)⟩
     first | (rw [List.map_append, List.map_map]; exact hr7b) | (simp only [if_true, List.map_append, List.map_map]; exact hr7b)
    | false =>
     refine yi (by simp only [sB, Nat.reduceEqDiff] <;> rfl) ?_
     repeat' (first | refine ya ?_ | refine yg ?_ | refine yd ?_ | (refine ye ?_; try simp only [sB, reduceCtorEq]) | (refine yf ?_) | (refine yc ?_; try simp only [z01, z00]))
     exact ⟨_, _, _, _, rfl, rfl, hxc, by first | (rw [List.append_nil, List.map_map]; exact hr7) | (simp only [Bool.false_eq_true, if_false, List.append_nil, List.map_map]; exact hr7), (by simp only [sG, Nat.reduceEqDiff, g7] <;> rfl)⟩
   clear g1 g2 g6 g7 hr7 hxc hlbc tm
   rintro st ⟨tm, o, v, Hd, rfl, ho', hxc, hr7, g7⟩
   have hob : ∀ y ∈ o, y < 256 := by
    intro y hy
    rw [ho'] at hy
    rcases List.mem_append.1 hy with h | h
    ·obtain ⟨x, hx, rfl⟩ := List.mem_map.1 h
     have := hod x hx; omega
    ·cases neg <;> simp at h
     omega
   have hon : 0 < o.length := by
    have : od ≠ [] := by rw [← hdec', z65 hnz]; simp
    rw [ho', List.length_append, List.length_map]
    have := List.length_pos_iff.2 this
    omega
   have hol2 : o.length ≤ 4097 := by
    rw [ho', List.length_append, List.length_map]
    cases neg <;> simp <;> omega
   have htx : textD neg n = o.reverse := by
    unfold textD
    rw [if_neg hnz, hdec', ho']
   obtain ⟨b7, c7, ho7, rfl⟩ := hr7.own (by intro h; rw [List.map_eq_nil_iff] at h; rw [h] at hon; simp at hon)
   rw [List.length_map] at g7
   repeat' (first | refine ya ?_ | refine yg ?_ | refine yd ?_ | (refine ye ?_) | (refine yf ?_) | (refine yc ?_; try simp only [z01, z00]) | (refine yb ?_; simp (disch := first | omega | rfl) only [sB, Nat.reduceEqDiff, znc, g7, z06]))
   have hxw := hxc.wf
   refine yk (fun k st => ∃ (tm : Tr Value) (v : Value) (He : Heap), st = ⟨tm, [], He⟩ ∧ k ≤ o.length ∧ HX Hd He ∧ RepO He 5 1 Hd.next ((o.drop k).reverse.map fun x => [u8V x]) v ∧ tm.get 5 = some (.slice (some ⟨b7, 0, none⟩) o.length c7) ∧ tm.get 10 = some v ∧ tm.get 11 = some (.int .i64 ((k : Int) - 1))) ?_ o.length _ ?_
   ·clear g7 tm
    rintro k st ⟨tm, v, He, rfl, hk, hxe, hre, g5, g10, g11⟩
    have ho8 := ho7.keep hxe
    cases k with
    | zero =>
     rw [List.drop_zero] at hre
     obtain ⟨b9, c9, ho9, rfl⟩ := hre.own (by intro h; rw [List.map_eq_nil_iff, List.reverse_eq_nil_iff] at h; rw [h] at hon; simp at hon)
     rw [List.length_map, List.length_reverse] at g10
     have hrd : RdS He (o.reverse.map u8V) (some ⟨b9, 0, none⟩) c9 := OwnS.rds (by rw [List.map_map]; exact ho9)
     obtain ⟨b8, o8, h8, hload⟩ := hrd.all (by intro h; rw [List.map_eq_nil_iff, List.reverse_eq_nil_iff] at h; rw [h] at hon; simp at hon)
     cases h8
     rw [List.length_map, List.length_reverse] at hload
     obtain ⟨t, hdb, ht⟩ := z87 (c := c9) (l := o.reverse) hload (by omega)
     have hcon := z85 (P := Tryz.prog) (src := 127) (dst := 9) (e := 5) (by kernel_rfl) (by kernel_rfl) (by kernel_rfl) hdb
     repeat' (first | refine ya ?_ | refine yg ?_ | refine yd ?_ | (refine ye ?_) | (refine yf ?_; try simp only [sB]) | (refine yc ?_; try simp only [z01, z00]) | (refine yb ?_; simp (disch := first | omega | rfl) only [sB, Nat.reduceEqDiff, g10, g11, hcon, decide_eq_false]) | (refine yh ?_ ?_; simp (disch := first | omega | rfl) only [sB, Nat.reduceEqDiff]; refine z03 ?_) | (refine yi ?_ ?_; simp (disch := first | omega | rfl) only [sB, Nat.reduceEqDiff]; refine z03 ?_))
     refine z04 rfl (by simp only [sG, Nat.reduceEqDiff] <;> rfl) ⟨⟨t, rfl, ?_⟩, (hx0.trans hxc).trans hxe⟩
     unfold bl
     rw [ht, List.map_map, htx]
     exact zfc _ fun y hy => hob y (List.mem_reverse.1 hy)
    | succ j =>
     have e0 : (((j + 1 : Nat) : Int) - 1) = (j : Int) := by omega
     rw [e0] at g11
     have hx : o[j]? = some o[j] := List.getElem?_eq_getElem (by omega)
     have hdr : o.drop j = o[j] :: o.drop (j + 1) := List.drop_eq_getElem_cons (by omega)
     generalize o[j] = x at hx hdr
     have hld := ho8.load (i := j) (x := [u8V x]) (by rw [List.getElem?_map, hx]; rfl)
     rw [Nat.mul_one] at hld
     obtain ⟨H5, v5, hap, hre5, -, hx5, -⟩ := hre.push zgz (y := [u8V x]) rfl rfl (by simp [most]; omega) hxe.next
     unfold u8V at hap hld
     repeat' (first | refine ya ?_ | refine yg ?_ | refine yd ?_ | (refine ye ?_; try simp only [z02]) | (refine yf ?_) | (refine yc ?_; try simp only [z01, z00]) | (refine yb ?_; simp (disch := first | omega | rfl) only [sB, Nat.reduceEqDiff, Value.cells, one, layC, z76, znd, ld5, g5, g10, g11, hld, hap, decide_eq_true, z06]) | (refine yh ?_ ?_; simp (disch := first | omega | rfl) only [sB, Nat.reduceEqDiff]; refine z03 ?_))
     refine ⟨j, by omega, _, _, _, rfl, by omega, hx5 _ hxe (Nat.le_refl _), ?_, (by simp only [sG, Nat.reduceEqDiff, g5] <;> rfl), (by simp only [sB, Nat.reduceEqDiff] <;> rfl), (by simp only [sG, Nat.reduceEqDiff] <;> rfl)⟩
     have : (o.drop j).reverse.map (fun x => [u8V x]) = (o.drop (j + 1)).reverse.map (fun x => [u8V x]) ++ [[u8V x]] := by rw [hdr]; simp
     rw [this]; exact hre5
   ·exact ⟨_, _, _, rfl, Nat.le_refl _, HX.refl hxw, by rw [List.drop_length]; exact RepO.empty, (by simp only [sG, Nat.reduceEqDiff, g7] <;> rfl), (by simp only [sG, Nat.reduceEqDiff] <;> rfl), (by simp only [sG, Nat.reduceEqDiff] <;> rfl)⟩
  ·have hM1 : 0 < M.length := List.length_pos_iff.2 hM0
   have hvM := z66 (B := 2) (by omega) hM0 hMn
   have hmost : M.length ≤ most := by simp [most]; omega
   have hmax : M.length ≤ maxLen := Nat.le_trans hMl (by simp [maxLen])
   repeat' (first | refine ya ?_ | refine yg ?_ | refine yd ?_ | (refine ye ?_; try simp only [z02]) | (refine yf ?_) | (refine yc ?_; try simp only [z01, z00]) | (refine yb ?_; simp (disch := first | omega | rfl) only [sB, Nat.reduceEqDiff, ln42, g6, decide_eq_true, z06, z95 mk42 hmost, z96]) | (refine yh ?_ ?_; simp (disch := first | omega | rfl) only [sB, Nat.reduceEqDiff]; refine z03 ?_))
   have hxq := (HX.refl hxc.wf).new (some (.row (List.replicate M.length (Value.int .i64 0)) 3))
   have hoq := OwnS.ones (H := Hc.new (some (.row (List.replicate M.length (Value.int .i64 0)) 3))) (base := Hc.next) (c := M.length) z0o (Nat.le_refl _) (Nat.lt_succ_self _) (by simp) hmax (by simp [one])
   refine yk (fun k st => ∃ (tm : Tr Value) (q : List Nat) (r : Nat) (Hd : Heap), st = ⟨tm, [], Hd⟩ ∧ k ≤ M.length ∧ q.length = M.length - k ∧ (∀ y ∈ q, y < 2) ∧ r < 10 ∧ valB 2 (M.take k) + 2 ^ k * (10 * valB 2 q + r) = valB 2 M ∧ HX Hc Hd ∧
    OwnS Hd 3 1 Hc.next ((List.replicate k 0 ++ q).map fun x => [i64V x]) Hc.next M.length ∧ tm.get 1 = some (.int .i64 10) ∧ tm.get 2 = some (.pointer (some ⟨H.next, 0, none⟩)) ∧
    tm.get 5 = some v5 ∧ tm.get 6 = some (.slice a M.length c) ∧ tm.get 7 = some (.int .i64 (r : Nat)) ∧ tm.get 8 = some (.slice (some ⟨Hc.next, 0, none⟩) M.length M.length) ∧ tm.get 9 = some (.int .i64 ((k : Int) - 1))) ?_ M.length _ ?_
   ·clear g1 g2 g6 g7 tm
    rintro k st ⟨tm, q, r, Hd, rfl, hk, hq, hqb, hr, hinv, hxd, hoq, g1, g2, g5, g6, g7, g8, g9⟩
    cases k with
    | zero =>
     rw [List.replicate_zero, List.nil_append] at hoq
     simp only [List.take_zero, valB, Nat.pow_zero, Nat.one_mul, Nat.zero_add] at hinv
     have hqM : q.length = M.length := by omega
     repeat' (first | refine ya ?_ | refine yg ?_ | refine yd ?_ | (refine ye ?_) | (refine yf ?_; try simp only [sB, Nat.reduceEqDiff, reduceCtorEq]) | (refine yc ?_; try simp only [z01, z00]) | (refine yb ?_; simp (disch := first | omega | rfl) only [sB, Nat.reduceEqDiff, cl99, g8, g9, decide_eq_false]) | (refine yh ?_ ?_; simp (disch := first | omega | rfl) only [sB, Nat.reduceEqDiff]; refine z03 ?_) | (refine yi ?_ ?_; simp (disch := first | omega | rfl) only [sB, Nat.reduceEqDiff]; refine z03 ?_))
     have hrq : RdS Hd (q.map i64V) (some ⟨Hc.next, 0, none⟩) M.length := OwnS.rds (by rw [List.map_map]; exact hoq)
     have hct := zh7 (ok := okT) (fun _ _ => rfl) (by decide) hrq
     rw [hqM] at hct
     refine hct.mono ?_
     rintro v H' ⟨m, rfl, hm, hz, hn0, rfl⟩
     have hmost2 : od.length + 1 ≤ most := by
      have := z44 (e := mostBits) hvM (hle hM0) (by rw [← z5z]; exact hn)
      simp [mostBits] at this
      simp [most]; omega
     have hr7d := hr7.keep hxd
     have hx1d := hxc.trans hxd
     obtain ⟨H5, v5', hap, hr7b, hn5, hx5, hk5⟩ := hr7d.push zgz (y := [u8V (48 + r)]) rfl rfl (by simpa using hmost2) hx1d.next
     unfold u8V at hap
     repeat' (first | refine ya ?_ | refine yg ?_ | refine yd ?_ | (refine ye ?_) | (refine yf ?_) | (refine yc ?_; try simp only [z01, z00]) | (refine yb ?_; simp (disch := first | omega | rfl) only [sB, Nat.reduceEqDiff, g5, g7]))
     rw [z0v us9 (show r < _ from by show _ < 36; omega), zh9 (by decide) hr]
     repeat' (first | refine ya ?_ | refine yg ?_ | refine yd ?_ | (refine ye ?_) | (refine yf ?_) | (refine yc ?_; try simp only [z01, z00]) | (refine z0w ?_; simp (disch := first | omega | rfl) only [sB, Nat.reduceEqDiff, Value.cells, one, layC, z76, hap]))
     have hvq : valB 2 (q.take m) = valB 2 q := z3w hz
     have hq10 : valB 2 q = valB 2 M / 10 := by omega
     have hr10 : r = valB 2 M % 10 := by omega
     have hod2 : ((od ++ [r]).map fun x => [u8V (48 + x)]) = (od.map fun x => [u8V (48 + x)]) ++ [[u8V (48 + r)]] := by simp
     have hml : (q.take m).length = m := by rw [List.length_take, Nat.min_eq_left (by omega)]
     obtain ⟨csq, hgq, _⟩ := hoq.row
     have hgq5 : H5.get Hc.next = some (.row csq 3) := by rw [hk5 _ hoq.hi (fun cs h => by rw [hgq] at h; cases h)]; exact hgq
     have hrq5 : RdS H5 ((q.take m).map i64V) (some ⟨Hc.next, 0, none⟩) M.length := by
      have h1 := (hrq.take m)
      rw [← List.map_take] at h1
      exact zjd h1 fun _ b o s hb => by cases hb; rw [hgq5, hgq]
     refine ⟨valB 2 (q.take m), by rw [hvq]; omega, _, q.take m, od ++ [r], some ⟨Hc.next, 0, none⟩, M.length, _, _, rfl, rfl, fun y hy => hqb y (List.mem_of_mem_take hy), by rw [hml]; omega, ?_, ?_, ?_, ?_, ?_, hx5 _ hx1d (Nat.le_refl _), hrq5, fun _ b o s hb => .inr ⟨csq, by cases hb; exact hgq5⟩, by rw [hod2]; exact hr7b, (by simp only [sG, Nat.reduceEqDiff, g1] <;> rfl), (by simp only [sG, Nat.reduceEqDiff, g2] <;> rfl), (by simp only [sG, Nat.reduceEqDiff] <;> rfl), by rw [hml]; first | (simp only [sG, Nat.reduceEqDiff]; rfl) | simp only [sG, Nat.reduceEqDiff]⟩
     ·rw [List.getLast?_eq_getElem?, hml]
      by_cases h0 : m = 0
      ·subst h0; simp
      ·rw [List.getElem?_take, if_pos (by omega)]; exact hn0 h0
     ·rw [hdec, z65 hvM, hvq, hq10, ← hr10]; simp
     ·intro _
      rw [hvq, List.length_append, List.length_singleton, Nat.pow_succ]
      have h1 := hle hM0
      have h2 : valB 2 q * (10 ^ od.length * 10) = (valB 2 q * 10) * 10 ^ od.length := by rw [Nat.mul_comm (10 ^ od.length) 10, Nat.mul_assoc]
      rw [h2]
      exact Nat.le_trans (Nat.mul_le_mul_right _ (by omega)) h1
     ·have := z44 (e := mostBits) hvM (hle hM0) (by rw [← z5z]; exact hn)
      simp [mostBits] at this
      simp; omega
     ·intro y hy
      rcases List.mem_append.1 hy with h | h
      ·exact hod y h
      ·simp at h; omega
    | succ j =>
     have e0 : (((j + 1 : Nat) : Int) - 1) = (j : Int) := by omega
     rw [e0] at g9
     have hx : M[j]? = some M[j] := List.getElem?_eq_getElem (by omega)
     have hxb : M[j] < 2 := hMb _ (List.getElem_mem _)
     have htk : M.take (j + 1) = M.take j ++ [M[j]] := by rw [List.take_add_one, hx]; rfl
     generalize M[j] = x at hx hxb htk
     rw [htk] at hinv
     have hlj : (M.take j).length = j := by rw [List.length_take]; omega
     obtain ⟨b, o, rfl, hld⟩ := (hrM.keep hxd hxc.wf).get j (i64V x) (by simp [hx])
     unfold i64V at hld
     have e1 : (2 * (r : Int) + (x : Int)) = ((r * 2 + x : Nat) : Int) := by omega
     have hinv2 := zh5 (B := 2) (x := x) (r := r) (low := M.take j) (q := q)
     rw [hlj, hinv] at hinv2
     obtain ⟨csq, hgq, hclq, _⟩ := hoq.row
     have hlq : ((List.replicate (j + 1) 0 ++ q).map fun x => [i64V x]).length = M.length := by simp; omega
     rw [hlq, Nat.mul_one] at hclq
     have hk1 : j + 1 ≤ csq.length := by omega
     have hrep : List.replicate (j + 1) 0 ++ q = List.replicate j 0 ++ (0 :: q) := by rw [List.replicate_succ']; simp
     by_cases hge : 10 ≤ r * 2 + x
     ·have e2 : (((r * 2 + x : Nat) : Int) - 10) = ((r * 2 + x - 10 : Nat) : Int) := by omega
      repeat' (first | refine ya ?_ | refine yg ?_ | refine yd ?_ | (refine ye ?_; try simp only [z02]) | (refine yf ?_) | (refine yc ?_; try simp only [z01, z00]) | (refine yb ?_; simp (disch := first | omega | rfl) only [sB, Nat.reduceEqDiff, one, ia42, ld3, st3, g1, g6, g7, g8, g9, hld, e1, e2, hgq, hk1, decide_eq_true, z06]) | (refine yh ?_ ?_; simp (disch := first | omega | rfl) only [sB, Nat.reduceEqDiff]; refine z03 ?_))
      have hset := hoq.set hgq (i := j) (y := [i64V 1]) (by rw [hlq]; omega) rfl rfl
      rw [Nat.mul_one] at hset
      have hset2 : ((List.replicate (j + 1) 0 ++ q).map fun x => [i64V x]).set j [i64V 1] = (List.replicate j 0 ++ (1 :: q)).map fun x => [i64V x] := by
       rw [hrep, List.map_append, List.set_append_right _ _ (by simp), List.length_map, List.length_replicate, Nat.sub_self]
       simp
      rw [hset2] at hset
      have h1 : (r * 2 + x) / 10 = 1 := by omega
      have h2 : (r * 2 + x) % 10 = r * 2 + x - 10 := by omega
      rw [h1, h2] at hinv2
      exact ⟨j, by omega, _, 1 :: q, r * 2 + x - 10, _, rfl, by omega, by simp; omega, by simpa using hqb, by omega, hinv2.symm, hxd.put hoq.lo hoq.hi _, hset, (by simp only [sG, Nat.reduceEqDiff, g1] <;> rfl), (by simp only [sG, Nat.reduceEqDiff, g2] <;> rfl), (by simp only [sG, Nat.reduceEqDiff, g5] <;> rfl), (by simp only [sG, Nat.reduceEqDiff, g6] <;> rfl), (by simp only [sG, Nat.reduceEqDiff] <;> rfl), (by simp only [sG, Nat.reduceEqDiff, g8] <;> rfl), (by simp only [sG, Nat.reduceEqDiff] <;> rfl)⟩
     ·repeat' (first | refine ya ?_ | refine yg ?_ | refine yd ?_ | (refine ye ?_; try simp only [sA]) | (refine yf ?_) | (refine yc ?_; try simp only [z01, z00]) | (refine yb ?_; simp (disch := first | omega | rfl) only [sB, Nat.reduceEqDiff, ia42, ld3, g1, g6, g7, g9, hld, e1, decide_eq_true, decide_eq_false, z06]) | (refine yh ?_ ?_; simp (disch := first | omega | rfl) only [sB, Nat.reduceEqDiff]; refine z03 ?_) | (refine yi ?_ ?_; simp (disch := first | omega | rfl) only [sB, Nat.reduceEqDiff]; refine z03 ?_))
      have h1 : (r * 2 + x) / 10 = 0 := by omega
      have h2 : (r * 2 + x) % 10 = r * 2 + x := by omega
      rw [h1, h2] at hinv2
      exact ⟨j, by omega, _, 0 :: q, r * 2 + x, _, rfl, by omega, by simp; omega, by simpa using hqb, by omega, hinv2.symm, hxd, by rw [← hrep]; exact hoq, (by simp only [sG, Nat.reduceEqDiff, g1] <;> rfl), (by simp only [sG, Nat.reduceEqDiff, g2] <;> rfl), (by simp only [sG, Nat.reduceEqDiff, g5] <;> rfl), (by simp only [sG, Nat.reduceEqDiff, g6] <;> rfl), (by simp only [sG, Nat.reduceEqDiff] <;> rfl), (by simp only [sG, Nat.reduceEqDiff, g8] <;> rfl), (by simp only [sG, Nat.reduceEqDiff] <;> rfl)⟩
   ·refine ⟨_, [], 0, _, rfl, Nat.le_refl _, by simp, by simp, by omega, by simp [valB], hxq, ?_, (by simp only [sG, Nat.reduceEqDiff, g1] <;> rfl), (by simp only [sG, Nat.reduceEqDiff, g2] <;> rfl), (by simp only [sG, Nat.reduceEqDiff, g7] <;> rfl), (by simp only [sG, Nat.reduceEqDiff, g6] <;> rfl), (by simp only [sB, Nat.reduceEqDiff] <;> rfl), (by simp only [sG, Nat.reduceEqDiff] <;> rfl), (by simp only [sG, Nat.reduceEqDiff] <;> rfl)⟩
    have : (List.replicate M.length 0 ++ []).map (fun x => [i64V x]) = (List.replicate M.length (Value.int .i64 0)).map fun v => [v] := by simp [i64V]
    rw [this]; exact hoq
 ·exact ⟨_, L, [], a, c, _, _, rfl, rfl, hL, hlen, hlast, by rw [hval]; rfl, fun _ => by rw [hval]; simp, by simp, by simp, HX.refl hw1, hr1, fun hne b o s ha => .inl (by have h1 := znk r hw (by simpa using hne) ha; have h2 := hx0.next; exact Nat.lt_of_lt_of_le h1 h2), RepO.empty, (by simp only [sG, Nat.reduceEqDiff, reduceCtorEq] <;> rfl), (by simp only [sG, Nat.reduceEqDiff, reduceCtorEq] <;> rfl), (by simp only [sG, Nat.reduceEqDiff, reduceCtorEq] <;> rfl), (by simp only [sG, Nat.reduceEqDiff, reduceCtorEq] <;> rfl)⟩
end Go.Proofs.hq
end

section
namespace Go.Proofs.hq
open Go Go.RowKit Go.Hb
theorem zl2 : callable Tryz.prog 35 = true := by kernel_rfl
theorem z4n : isAgg? Tryz.prog 25 = some true := by kernel_rfl
theorem z5m : isAgg? Tryz.prog 23 = some false := by kernel_rfl
theorem z1q : Tryz.prog.cellsOf 25 = 6 := by kernel_rfl
theorem z8c : (Tryz.prog.info? 25).isSome = true := by kernel_rfl
theorem z1v : fldOf Tryz.prog 25 5 = some (5, 23) := by kernel_rfl
theorem z59 : Nat.beq (Tryz.prog.cellsOf 23) 0 = false := by kernel_rfl
theorem zl3 : zerosOf Tryz.prog 25 = some [.int .i64 0, .string ByteArray.empty, .string ByteArray.empty, .int .u64 0, .int .i64 0, .slice none 0 0] := by kernel_rfl
mutual
def cnt : Tm → Nat → Nat
 | .mk _ _ _ _ _ l, n => cntL l (n + 1)
def cntL : List Tm → Nat → Nat
 | [], n => n
 | t :: l, n => if 4000 < n then n else cntL l (cnt t n)
end
theorem ze6 {t : Tm} {k : Int} {s u : ByteArray} {b v : Int} {l : List Tm} (h : t ∈ l) : SizeOf.sizeOf t < SizeOf.sizeOf (Tm.mk k s u b v l) := by
 have := List.sizeOf_lt_of_mem h
 simp; omega
theorem z15 {t u : Tm} {i : Nat} (h : t.args[i]? = some u) : SizeOf.sizeOf u < SizeOf.sizeOf t := by
 obtain ⟨k, s, w, b, v, l⟩ := t
 exact ze6 (List.mem_of_getElem? h)
theorem z5a (t : Tm) (n : Nat) : cnt t n = cntL t.args (n + 1) := by
 obtain ⟨k, s, w, b, v, l⟩ := t
 rw [cnt]; rfl
theorem zhb : ∀ (l : List Tm), (∀ t ∈ l, ∀ n, n ≤ 4000 → cnt t n ≤ 4001) → ∀ n, n ≤ 4001 → cntL l n ≤ 4001
 | [], _, n, h => by rw [cntL]; exact h
 | t :: l, ht, n, h => by
  rw [cntL]
  split
  ·exact h
  ·exact zhb l (fun u hu => ht u (List.mem_cons_of_mem _ hu)) _ (ht t (by simp) n (by omega))
theorem zap : ∀ (m : Nat) (t : Tm), SizeOf.sizeOf t < m → ∀ n, n ≤ 4000 → cnt t n ≤ 4001
 | 0, t, h, _, _ => by omega
 | m + 1, t, h, n, hn => by
  rw [z5a]
  refine zhb _ (fun u hu k hk => zap m u ?_ k hk) _ (by omega)
  obtain ⟨i, hi, e⟩ := List.getElem_of_mem hu
  have := z15 (t := t) (u := u) (i := i) (by rw [List.getElem?_eq_getElem hi, e])
  omega
theorem zaq {l : List Tm} {i : Nat} {t : Tm} (h : l[i]? = some t) (n : Nat) (hn : n ≤ 4000) : cntL (l.drop i) n = cntL (l.drop (i + 1)) (cnt t n) := by
 have hlt := (List.getElem?_eq_some_iff.1 h).1
 have he : l[i] = t := (List.getElem?_eq_some_iff.1 h).2
 rw [List.drop_eq_getElem_cons hlt, cntL, if_neg (by omega), he]
theorem zar {l : List Tm} {n : Nat} (hn : 4000 < n) : cntL l n = n := by
 cases l with
 | nil => rw [cntL]
 | cons t l => rw [cntL, if_pos hn]
variable {ok : Ok}
set_option maxRecDepth 10000 in
theorem zjf (hk : ∀ args H, ok.K 35 args H = none) (hm : ok.testBit 35 = true) : ∀ (m : Nat) {t : Tm} {cs : List Value} {H : Heap}, SizeOf.sizeOf t < m → RepT H t cs → H.wf → ∀ n : Nat, n ≤ 4000 →
  EvF Tryz.prog ok 35 [.agg ⟨cs⟩, .int .i64 n] H fun v H' => v = .int .i64 (cnt t n) ∧ HX H H' := by
 intro m
 induction m with
 | zero => intro t cs H h; omega
 | succ m ih =>
 intro t cs H hsz r hw n hn
 obtain ⟨a, c, cells, rfl, b1, b2, b3, b4, b5, rl⟩ := r.inv
 refine EvF.enter (hk _ _) Tryz.func35 hm rfl ?_
 refine ya (yb ?_)
 simp (disch := omega) only [sB, initTm, dBox, Value.cells, one, reduceCtorEq]
 refine ya (yb ?_)
 simp (disch := omega) only [sB, Nat.reduceEqDiff, reduceCtorEq, z06]
 refine ya (ya (yb ?_))
 simp (disch := omega) only [sB, Nat.reduceEqDiff, reduceCtorEq, cutC, z05 z1v z59, z07 z5m, z0q Tryz.underlying23]
 refine yd (yk (fun k st => ∃ tm H' i n', st = ⟨tm, [], H'⟩ ∧ k = t.args.length - i ∧ i ≤ t.args.length ∧ n' ≤ 4001 ∧ cntL (t.args.drop i) n' = cnt t n ∧ tm.get 1 = some (.int .i64 (n' : Nat)) ∧
  tm.get 10 = some (.slice a t.args.length c) ∧ tm.get 11 = some (.int .i64 t.args.length) ∧ tm.get 12 = some (.int .i64 (i : Nat)) ∧ HX H H') ?_ t.args.length _ ?_)
 ·rintro k st ⟨tm, H', i, n', rfl, hk', hi, hn', hc, g1, g10, g11, g12, hx⟩
  refine ya (yb ?_)
  simp (disch := omega) only [sA, g11, g12]
  refine ya ?_
  by_cases hlt : i < t.args.length
  ·refine yh (by simp only [sB]; exact congrArg _ (decide_eq_true (by omega))) (ye ?_)
   obtain ⟨b, o, rfl, hload, hrep⟩ := rl.at (i := i) (List.getElem?_eq_getElem hlt)
   obtain ⟨a', c', cells', hcell, -⟩ := hrep.inv
   have hld := hx.load hw hload
   rw [hcell] at hld hrep
   refine ya (yd (ya (yb ?_)))
   simp (disch := omega) only [sB, dAlloc, Nat.reduceEqDiff, Nat.reduceAdd, one, g10, g12, z19 Tryz.underlying23 z8c hlt, z0u z4n, z1q, hld, zl3, z5i z8c]
   refine ya (ya (yb ?_))
   simp (disch := omega) only [sB, Nat.reduceEqDiff, g1]
   have hx2 := (hx.new (some (Blk.row [Value.int IntKind.i64 0, Value.string ByteArray.empty, Value.string ByteArray.empty, Value.int IntKind.u64 0, Value.int IntKind.i64 0, Value.slice none 0 0] 25))).put (i := H'.next) hx.next (Nat.lt_succ_self _)
    (some (.row [Value.int IntKind.i64 t.args[i].kind, Value.string t.args[i].name, Value.string t.args[i].num, Value.int IntKind.u64 t.args[i].bits, Value.int IntKind.i64 t.args[i].var, Value.slice a' t.args[i].args.length c'] 25))
   by_cases hov : 4000 < n'
   ·refine yh (by simp only [sB, Nat.reduceEqDiff]; exact congrArg _ (decide_eq_true (by omega))) (yf ?_)
    simp only [z2h, z1t, reduceIte, Nat.reduceEqDiff, z02]
    refine ya (yb ?_)
    simp (disch := omega) only [sB, Nat.reduceEqDiff, g1]
    refine yc (z04 rfl (by simp only [sG, Nat.reduceEqDiff]; rfl) ⟨?_, hx2⟩)
    rw [← hc, zar hov]
   ·refine yi (by simp only [sB, Nat.reduceEqDiff]; exact congrArg _ (decide_eq_false (by omega))) (ye ?_)
    simp only [z02]
    refine yb ?_
    simp (disch := omega) only [sB, Nat.reduceEqDiff, Nat.reduceAdd, cutC, g1, z0u z4n, z1q, z08 zl2]
    have ht : t.args[i]? = some t.args[i] := List.getElem?_eq_getElem hlt
    have hs := z15 ht
    have hx1 : HX H H' := hx
    refine (ih (t := t.args[i]) (by omega) (hrep.mono hx2 hw) hx2.wf n' (by omega)).mono ?_
    rintro v H2 ⟨rfl, hx3⟩
    have hL : t.args.length ≤ 9223372036854775807 := Nat.le_trans rl.len rl.cap
    refine yb ?_
    simp (disch := omega) only [sB, Nat.reduceEqDiff, g12, z06]
    refine ⟨t.args.length - (i + 1), by omega, _, _, i + 1, cnt t.args[i] n', rfl, rfl, by omega, zap _ _ (Nat.lt_succ_self _) _ (by omega), by rw [← hc, zaq ht _ (by omega)], by simp only [sG, Nat.reduceEqDiff], by simp only [sG, Nat.reduceEqDiff]; exact g10, by simp only [sG, Nat.reduceEqDiff]; exact g11, by simp only [sG, Nat.reduceEqDiff]; rfl, hx2.trans hx3⟩
  ·refine yi (by simp only [sB]; exact congrArg _ (decide_eq_false (by omega))) (yf ?_)
   simp only [z2h, z1t, reduceIte, Nat.reduceEqDiff, z02]
   refine ya (yb ?_)
   simp (disch := omega) only [sB, Nat.reduceEqDiff, g1]
   refine yc (z04 rfl (by simp only [sG, Nat.reduceEqDiff]; rfl) ⟨?_, hx⟩)
   rw [← hc, List.drop_of_length_le (by omega), cntL]
 ·exact ⟨_, _, 0, n + 1, rfl, rfl, by omega, by omega, by rw [z5a]; rfl, by simp only [sG, Nat.reduceEqDiff, reduceCtorEq]; rfl, by simp only [sG, Nat.reduceEqDiff, reduceCtorEq], by simp only [sG, Nat.reduceEqDiff, reduceCtorEq], by simp only [sG, Nat.reduceEqDiff, reduceCtorEq]; rfl, (HX.refl hw).new _⟩
end Go.Proofs.hq
end

section
namespace Go.Proofs.hq
open Go Go.RowKit Go.Hb
theorem zl4 : callable Tryz.prog 77 = true := by kernel_rfl
theorem znl : callable Tryz.prog 18 = true := by kernel_rfl
theorem znm : callable Tryz.prog 64 = true := by kernel_rfl
variable {ok : Ok}
set_option maxRecDepth 10000 in
theorem zas (hk : ∀ args H, ok.K 77 args H = none) (hm : ok.testBit 77 = true) : ∀ (m : Nat) {t : Tm} {cs : List Value} {H : Heap}, SizeOf.sizeOf t < m → RepT H t cs → H.wf → ∀ n : Nat, n ≤ 4000 →
  EvF Tryz.prog ok 77 [.agg ⟨cs⟩, .int .i64 n] H fun v H' => v = .int .i64 (cnt t n) ∧ HX H H' := by
 intro m
 induction m with
 | zero => intro t cs H h; omega
 | succ m ih =>
 intro t cs H hsz r hw n hn
 obtain ⟨a, c, cells, rfl, b1, b2, b3, b4, b5, rl⟩ := r.inv
 refine EvF.enter (hk _ _) Tryz.func77 hm rfl ?_
 (repeat refine ya ?_); refine yb ?_
 simp (disch := omega) only [sB, initTm, dBox, Value.cells, one, reduceCtorEq]
 (repeat refine ya ?_); refine yb ?_
 simp (disch := omega) only [sB, Nat.reduceEqDiff, reduceCtorEq, z06]
 (repeat refine ya ?_); refine yb ?_
 simp (disch := omega) only [sA]
 (repeat refine ya ?_); refine yd (yk (fun k st => ∃ tm H' i n', st = ⟨tm, [], H'⟩ ∧ k = t.args.length - i ∧ i ≤ t.args.length ∧ n' ≤ 4001 ∧ cntL (t.args.drop i) n' = cnt t n ∧ tm.get 1 = some (.int .i64 (n' : Nat)) ∧
  tm.get 2 = some (.pointer (some ⟨H.next, 0, none⟩)) ∧ tm.get 5 = some (.int .i64 (i : Nat)) ∧
  H'.get H.next = some (.row [.int .i64 t.kind, .string t.name, .string t.num, .int .u64 t.bits, .int .i64 t.var, .slice a t.args.length c] 25) ∧ H.next < H'.next ∧ HX H H') ?_ t.args.length _ ?_)
 ·rintro k st ⟨tm, H', i, n', rfl, hk', hi, hn', hc, g1, g2, g5, hbox, hlt0, hx⟩
  have hld5 : H'.load ⟨H.next, 5, none⟩ 1 = some [.slice a t.args.length c] := by
   simp only [Heap.load, Heap.cells, hbox]; rfl
  (repeat refine ya ?_); refine yb ?_
  by_cases hlt : i < t.args.length
  ·obtain ⟨b, o, rfl, hload, hrep⟩ := rl.at (i := i) (List.getElem?_eq_getElem hlt)
   obtain ⟨a', c', cells', hcell, -⟩ := hrep.inv
   have hld := hx.load hw hload
   rw [hcell] at hld hrep
   have hd1 : decide ((i : Int) < (t.args.length : Int)) = true := decide_eq_true (by omega)
   simp (disch := omega) only [sB, Nat.reduceEqDiff, g1, g2, g5, z05 z1v z59, z07 z5m, hld5, z0q Tryz.underlying23, hd1]
   by_cases hov : 4000 < n'
   ·(repeat refine ya ?_); refine yi (by simp only [sB, Nat.reduceEqDiff]; exact congrArg _ (decide_eq_false (by omega))) (yf ?_)
    simp only [z2h, z1t, reduceIte, z02]
    (repeat refine ya ?_); refine yb ?_
    simp (disch := omega) only [sB, Nat.reduceEqDiff, g1]
    refine yc (z04 rfl (by simp only [sG, Nat.reduceEqDiff]; rfl) ⟨?_, hx⟩)
    rw [← hc, zar hov]
   ·(repeat refine ya ?_); refine yh (by simp only [sB, Nat.reduceEqDiff]; exact congrArg _ (decide_eq_true (by omega))) (ye ?_)
    simp only [z02]
    (repeat refine ya ?_); refine yd ?_; (repeat refine ya ?_); refine yb ?_
    simp (disch := omega) only [sB, Nat.reduceEqDiff, g1, g2, g5, z05 z1v z59, z07 z5m, hld5, z19 Tryz.underlying23 z8c hlt, z0u z4n, z1q, hld, z08 zl4]
    have ht : t.args[i]? = some t.args[i] := List.getElem?_eq_getElem hlt
    have hs := z15 ht
    refine (ih (t := t.args[i]) (by omega) (hrep.mono hx hw) hx.wf n' (by omega)).mono ?_
    rintro v H2 ⟨rfl, hx3⟩
    have hL : t.args.length ≤ 9223372036854775807 := Nat.le_trans rl.len rl.cap
    refine yb ?_
    simp (disch := omega) only [sB, Nat.reduceEqDiff, g5, z06]
    refine ⟨t.args.length - (i + 1), by omega, _, _, i + 1, cnt t.args[i] n', rfl, rfl, by omega, zap _ _ (Nat.lt_succ_self _) _ (by omega), by rw [← hc, zaq ht _ (by omega)], by simp only [sG, Nat.reduceEqDiff], by simp only [sG, Nat.reduceEqDiff]; exact g2, by simp only [sG, Nat.reduceEqDiff]; rfl,
     by rw [hx3.keep _ hlt0]; exact hbox, Nat.lt_of_lt_of_le hlt0 hx3.next, hx.trans hx3⟩
  ·have hd1 : decide ((i : Int) < (t.args.length : Int)) = false := decide_eq_false (by omega)
   simp (disch := omega) only [sB, Nat.reduceEqDiff, g2, g5, z05 z1v z59, z07 z5m, hld5, z0q Tryz.underlying23, hd1, Bool.false_eq_true]
   (repeat refine ya ?_); refine yi (by simp only [sB, Nat.reduceEqDiff]) (yf ?_)
   simp only [z2h, z1t, reduceIte, z02]
   (repeat refine ya ?_); refine yb ?_
   simp (disch := omega) only [sB, Nat.reduceEqDiff, g1]
   refine yc (z04 rfl (by simp only [sG, Nat.reduceEqDiff]; rfl) ⟨?_, hx⟩)
   rw [← hc, List.drop_of_length_le (by omega), cntL]
 ·exact ⟨_, _, 0, n + 1, rfl, rfl, by omega, by omega, by rw [z5a]; rfl, by simp only [sG, Nat.reduceEqDiff, reduceCtorEq]; rfl, by simp only [sG, Nat.reduceEqDiff, reduceCtorEq], by simp only [sG, Nat.reduceEqDiff, reduceCtorEq]; rfl, by simp only [if_true, get_new], Nat.lt_succ_self _, (HX.refl hw).new _⟩
theorem zjg (hk : ∀ f args H, (f = 35 ∨ f = 18) → ok.K f args H = none) (hm : ok.testBit 35 = true) (hm2 : ok.testBit 18 = true) {t : Tm} {cs : List Value} {H : Heap} (r : RepT H t cs) (hw : H.wf) :
  EvF Tryz.prog ok 18 [.agg ⟨cs⟩] H fun v H' => v = .int .i64 (cnt t 0) ∧ HX H H' := by
 obtain ⟨a, c, cells, rfl, b1, b2, b3, b4, b5, rl⟩ := r.inv
 refine EvF.enter (hk _ _ _ (.inr rfl)) Tryz.func18 hm2 rfl ?_
 (repeat refine ya ?_); refine yb ?_
 simp (disch := omega) only [sB, initTm, dBox, Value.cells, one]
 (repeat refine ya ?_); refine yb ?_
 simp (disch := omega) only [sB, Nat.reduceEqDiff, Nat.reduceAdd, reduceCtorEq, cutC, z0u z4n, z1q, z08 zl2]
 have hx := (HX.refl hw).new (some (Blk.row [Value.int IntKind.i64 t.kind, Value.string t.name, Value.string t.num, Value.int IntKind.u64 t.bits, Value.int IntKind.i64 t.var, Value.slice a t.args.length c] 25))
 refine (zjf (hk 35 · · (.inl rfl)) hm _ (Nat.lt_succ_self _) (r.mono hx hw) hx.wf 0 (by omega)).mono ?_
 rintro v H2 ⟨rfl, hx3⟩
 have hle := zap _ t (Nat.lt_succ_self _) 0 (by omega)
 have hif : (if (4001 : Int) < (cnt t 0 : Int) then (4001 : Int) else (cnt t 0 : Int)) = (cnt t 0 : Int) := if_neg (by omega)
 simp (disch := omega) only [sB, Nat.reduceEqDiff, reduceCtorEq, zlm, zln, hif]
 exact yc (z04 rfl (by simp only [sG, Nat.reduceEqDiff, reduceCtorEq]) ⟨rfl, hx.trans hx3⟩)
theorem zat (hk : ∀ f args H, (f = 77 ∨ f = 64) → ok.K f args H = none) (hm : ok.testBit 77 = true) (hm2 : ok.testBit 64 = true) {t : Tm} {cs : List Value} {H : Heap} (r : RepT H t cs) (hw : H.wf) :
  EvF Tryz.prog ok 64 [.agg ⟨cs⟩] H fun v H' => v = .int .i64 (cnt t 0) ∧ HX H H' := by
 obtain ⟨a, c, cells, rfl, b1, b2, b3, b4, b5, rl⟩ := r.inv
 refine EvF.enter (hk _ _ _ (.inr rfl)) Tryz.func64 hm2 rfl ?_
 (repeat refine ya ?_); refine yb ?_
 simp (disch := omega) only [sB, initTm, dBox, Value.cells, one]
 (repeat refine ya ?_); refine yb ?_
 simp (disch := omega) only [sB, Nat.reduceEqDiff, Nat.reduceAdd, reduceCtorEq, cutC, z0u z4n, z1q, z08 zl4]
 have hx := (HX.refl hw).new (some (Blk.row [Value.int IntKind.i64 t.kind, Value.string t.name, Value.string t.num, Value.int IntKind.u64 t.bits, Value.int IntKind.i64 t.var, Value.slice a t.args.length c] 25))
 refine (zas (hk 77 · · (.inl rfl)) hm _ (Nat.lt_succ_self _) (r.mono hx hw) hx.wf 0 (by omega)).mono ?_
 rintro v H2 ⟨rfl, hx3⟩
 have hle := zap _ t (Nat.lt_succ_self _) 0 (by omega)
 (repeat refine ya ?_); refine yb ?_
 simp (disch := omega) only [sB, Nat.reduceEqDiff, reduceCtorEq]
 by_cases hov : 4000 < cnt t 0
 ·refine yh (by simp only [sB, Nat.reduceEqDiff, reduceCtorEq]; exact congrArg _ (decide_eq_true (by omega))) ?_
  (repeat refine ya ?_); refine yb ?_
  simp (disch := omega) only [sA]
  refine yc ?_
  simp only [z01]
  exact z04 rfl (by simp only [sG, Nat.reduceEqDiff, reduceCtorEq]; rfl) ⟨by rw [show cnt t 0 = 4001 by omega]; first | done | rfl, hx.trans hx3⟩
 ·refine yi (by simp only [sB, Nat.reduceEqDiff, reduceCtorEq]; exact congrArg _ (decide_eq_false (by omega))) (ye ?_)
  simp only [z02]
  (repeat refine ya ?_); refine yb ?_
  simp (disch := omega) only [sB, Nat.reduceEqDiff, reduceCtorEq]
  exact yc (z04 rfl (by simp only [sG, Nat.reduceEqDiff, reduceCtorEq]) ⟨rfl, hx.trans hx3⟩)
end Go.Proofs.hq
end

section
namespace Go.Proofs.hq
open Go Go.RowKit Go.Hb
theorem z1r : fldOf Tryz.prog 25 0 = some (0, 3) := by kernel_rfl
theorem z1w : fldOf Tryz.prog 25 1 = some (1, 9) := by kernel_rfl
theorem z3x : fldOf Tryz.prog 25 2 = some (2, 9) := by kernel_rfl
theorem z3l : fldOf Tryz.prog 25 3 = some (3, 22) := by kernel_rfl
theorem z4o : fldOf Tryz.prog 25 4 = some (4, 3) := by kernel_rfl
theorem one3 : Nat.beq (Tryz.prog.cellsOf 3) 0 = false := by kernel_rfl
theorem one9 : Nat.beq (Tryz.prog.cellsOf 9) 0 = false := by kernel_rfl
theorem z9e : Nat.beq (Tryz.prog.cellsOf 22) 0 = false := by kernel_rfl
theorem znn : Tryz.prog.cellsOf 3 = 1 := by kernel_rfl
theorem zhc : Tryz.prog.cellsOf 9 = 1 := by kernel_rfl
theorem zlz : Tryz.prog.cellsOf 22 = 1 := by kernel_rfl
theorem zm0 : Tryz.prog.cellsOf 23 = 1 := by kernel_rfl
theorem agg3 : isAgg? Tryz.prog 3 = some false := by kernel_rfl
theorem agg9 : isAgg? Tryz.prog 9 = some false := by kernel_rfl
theorem zau : isAgg? Tryz.prog 22 = some false := by kernel_rfl
theorem zo7 : (Tryz.prog.info? 3).isSome = true := by kernel_rfl
theorem zm1 : (Tryz.prog.info? 9).isSome = true := by kernel_rfl
theorem zno : (Tryz.prog.info? 22).isSome = true := by kernel_rfl
theorem znp : (Tryz.prog.info? 23).isSome = true := by kernel_rfl
theorem z17 : ByteArray.toList { data := #[] } = [] := by
 rw [ByteArray.toList, ByteArray.toList.loop]; rfl
def isE (s : ByteArray) : Bool := s.toList == []
def blankB (t : Tm) : Bool :=
 (t.kind == 2 || t.kind == 5 || isE t.name) && (t.kind == 3 || isE t.num) && (t.kind == 4 || t.bits == 0) && (t.kind == 1 || t.var == 0) && (t.kind == 5 || (t.args.length : Int) == 0)
variable {ok : Ok}
set_option maxRecDepth 10000 in
set_option maxHeartbeats 2000000 in
theorem zjh (hk : ∀ args H, ok.K 66 args H = none) (hm : ok.testBit 66 = true) {t : Tm} {cs : List Value} {H : Heap} (r : RepT H t cs) (hw : H.wf) :
  EvF Tryz.prog ok 66 [.agg ⟨cs⟩] H fun v H' => v = .bool (blankB t) ∧ HX H H' := by
 obtain ⟨a, c, cells, rfl, b1, b2, b3, b4, b5, rl⟩ := r.inv
 refine EvF.enter (hk _ _) Tryz.func66 hm rfl ?_
 (repeat refine ya ?_); refine yb ?_
 simp (disch := omega) only [sB, initTm, dBox, Value.cells, one]
 (repeat refine ya ?_); refine yb ?_
 simp (disch := omega) only [sB, Nat.reduceEqDiff, reduceCtorEq, cutC, z05 z1r one3, z07 agg3]
 refine EvC.meet (fun st => ∃ tm H' nm nu b v a n c, st = ⟨tm, [], H'⟩ ∧ tm.get 1 = some (.pointer (some ⟨H.next, 0, none⟩)) ∧ H'.get H.next = some (.row [.int .i64 t.kind, .string nm, .string nu, .int .u64 b, .int .i64 v, .slice a n c] 25) ∧
  HX H H' ∧ (isE nm && isE nu && b == 0 && v == 0 && (n : Int) == 0) = blankB t) ?_ ?_
 ·refine yd ?_
  have hx0 := (HX.refl hw).new (some (Blk.row [Value.int IntKind.i64 t.kind, Value.string t.name, Value.string t.num, Value.int IntKind.u64 t.bits, Value.int IntKind.i64 t.var, Value.slice a t.args.length c] 25))
  have hxp : ∀ B, HX H ((H.new (some (Blk.row [Value.int IntKind.i64 t.kind, Value.string t.name, Value.string t.num, Value.int IntKind.u64 t.bits, Value.int IntKind.i64 t.var, Value.slice a t.args.length c] 25))).put H.next B) := fun B => hx0.put (Nat.le_refl _) (Nat.lt_succ_self _) B
  (repeat refine ya ?_); refine yb ?_
  simp (disch := omega) only [sB, Nat.reduceEqDiff, reduceCtorEq]
  by_cases k1 : t.kind = 1
  ·refine yh (by simp only [sB, Nat.reduceEqDiff, reduceCtorEq]; rw [k1]; rfl) ?_
   (repeat refine ya ?_); refine yb ?_
   simp (disch := omega) only [sB, Nat.reduceEqDiff, Nat.reduceAdd, one, reduceCtorEq, Nat.reduceLeDiff, z05 z4o one3, z2i zo7 znn]
   exact ⟨_, _, t.name, t.num, t.bits, 0, a, t.args.length, c, rfl, by simp only [sG, Nat.reduceEqDiff, reduceCtorEq], by simp only [sB], hxp _, by simp [blankB, k1]⟩
  refine yi (by simp only [sB, Nat.reduceEqDiff, reduceCtorEq]; rw [show (t.kind == 1) = false by simpa using k1]) ?_
  (repeat refine ya ?_); refine yb ?_
  simp (disch := omega) only [sB, Nat.reduceEqDiff, reduceCtorEq]
  by_cases k2 : t.kind = 2
  ·refine yh (by simp only [sB, Nat.reduceEqDiff, reduceCtorEq]; rw [k2]; rfl) ?_
   (repeat refine ya ?_); refine yb ?_
   simp (disch := omega) only [sB, Nat.reduceEqDiff, Nat.reduceAdd, one, reduceCtorEq, Nat.reduceLeDiff, z05 z1w one9, z3g zm1 zhc]
   exact ⟨_, _, ByteArray.empty, t.num, t.bits, t.var, a, t.args.length, c, rfl, by simp only [sG, Nat.reduceEqDiff, reduceCtorEq], by simp only [sB]; rfl, hxp _, by simp [blankB, k2, isE]⟩
  refine yi (by simp only [sB, Nat.reduceEqDiff, reduceCtorEq]; rw [show (t.kind == 2) = false by simpa using k2]) ?_
  (repeat refine ya ?_); refine yb ?_
  simp (disch := omega) only [sB, Nat.reduceEqDiff, reduceCtorEq]
  by_cases k3 : t.kind = 3
  ·refine yh (by simp only [sB, Nat.reduceEqDiff, reduceCtorEq]; rw [k3]; rfl) ?_
   (repeat refine ya ?_); refine yb ?_
   simp (disch := omega) only [sB, Nat.reduceEqDiff, Nat.reduceAdd, one, reduceCtorEq, Nat.reduceLeDiff, z05 z3x one9, z3g zm1 zhc]
   exact ⟨_, _, t.name, ByteArray.empty, t.bits, t.var, a, t.args.length, c, rfl, by simp only [sG, Nat.reduceEqDiff, reduceCtorEq], by simp only [sB]; rfl, hxp _, by simp [blankB, k3, isE]⟩
  refine yi (by simp only [sB, Nat.reduceEqDiff, reduceCtorEq]; rw [show (t.kind == 3) = false by simpa using k3]) ?_
  (repeat refine ya ?_); refine yb ?_
  simp (disch := omega) only [sB, Nat.reduceEqDiff, reduceCtorEq]
  by_cases k4 : t.kind = 4
  ·refine yh (by simp only [sB, Nat.reduceEqDiff, reduceCtorEq]; rw [k4]; rfl) ?_
   (repeat refine ya ?_); refine yb ?_
   simp (disch := omega) only [sB, Nat.reduceEqDiff, Nat.reduceAdd, one, reduceCtorEq, Nat.reduceLeDiff, z05 z3l z9e, z2i zno zlz]
   exact ⟨_, _, t.name, t.num, 0, t.var, a, t.args.length, c, rfl, by simp only [sG, Nat.reduceEqDiff, reduceCtorEq], by simp only [sB], hxp _, by simp [blankB, k4]⟩
  refine yi (by simp only [sB, Nat.reduceEqDiff, reduceCtorEq]; rw [show (t.kind == 4) = false by simpa using k4]) ?_
  (repeat refine ya ?_); refine yb ?_
  simp (disch := omega) only [sB, Nat.reduceEqDiff, reduceCtorEq]
  by_cases k5 : t.kind = 5
  ·refine yh (by simp only [sB, Nat.reduceEqDiff, reduceCtorEq]; rw [k5]; rfl) ?_
   (repeat refine ya ?_); refine yb ?_
   simp (disch := omega) only [sB, Nat.reduceEqDiff, Nat.reduceAdd, one, reduceCtorEq, Nat.reduceLeDiff, z05 z1w one9, z05 z1v z59, z3g zm1 zhc, z3u znp zm0]
   exact ⟨_, _, ByteArray.empty, t.num, t.bits, t.var, none, 0, 0, rfl, by simp only [sG, Nat.reduceEqDiff, reduceCtorEq], by simp only [sB]; rfl, (hxp _).put (Nat.le_refl _) (Nat.lt_succ_self _) _, by simp [blankB, k5, isE]⟩
  refine yi (by simp only [sB, Nat.reduceEqDiff, reduceCtorEq]; rw [show (t.kind == 5) = false by simpa using k5]) (ye ?_)
  exact ⟨rfl, _, _, t.name, t.num, t.bits, t.var, a, t.args.length, c, rfl, by simp only [sG, Nat.reduceEqDiff, reduceCtorEq], by simp only [if_true, get_new], hx0, by simp [blankB, show (t.kind == 1) = false by simpa using k1, show (t.kind == 2) = false by simpa using k2, show (t.kind == 3) = false by simpa using k3, show (t.kind == 4) = false by simpa using k4, show (t.kind == 5) = false by simpa using k5]⟩
 ·rintro st ⟨tm, H', nm, nu, b, v, a, n, c, rfl, g1, hrow, hx, hres⟩
  simp only [z02]
  have l1 : H'.load ⟨H.next, 1, none⟩ 1 = some [.string nm] := by simp only [Heap.load, Heap.cells, hrow]; rfl
  have l2 : H'.load ⟨H.next, 2, none⟩ 1 = some [.string nu] := by simp only [Heap.load, Heap.cells, hrow]; rfl
  have l3 : H'.load ⟨H.next, 3, none⟩ 1 = some [.int .u64 b] := by simp only [Heap.load, Heap.cells, hrow]; rfl
  have l4 : H'.load ⟨H.next, 4, none⟩ 1 = some [.int .i64 v] := by simp only [Heap.load, Heap.cells, hrow]; rfl
  have l5 : H'.load ⟨H.next, 5, none⟩ 1 = some [.slice a n c] := by simp only [Heap.load, Heap.cells, hrow]; rfl
  (repeat refine ya ?_); refine yb ?_
  unfold isE at hres
  cases h1 : (nm.toList == []) with
  | false =>
   simp (disch := omega) only [sB, Nat.reduceEqDiff, z2o, g1, z05 z1w one9, z07 agg9, l1, z17, h1, Bool.false_eq_true]
   exact yc (z04 rfl (by simp only [sG, Nat.reduceEqDiff]; rfl) ⟨by rw [← hres, h1]; rfl, hx⟩)
  | true =>
  cases h2 : (nu.toList == []) with
  | false =>
   simp (disch := omega) only [sB, Nat.reduceEqDiff, z2o, g1, z05 z1w one9, z05 z3x one9, z07 agg9, l1, l2, z17, Bool.false_eq_true, h1, h2]
   exact yc (z04 rfl (by simp only [sG, Nat.reduceEqDiff]; rfl) ⟨by rw [← hres, h1, h2]; rfl, hx⟩)
  | true =>
  cases h3 : (b == 0) with
  | false =>
   simp (disch := omega) only [sB, Nat.reduceEqDiff, z2o, g1, z05 z1w one9, z05 z3x one9, z05 z3l z9e, z07 agg9, z07 zau, l1, l2, l3, z17, Bool.false_eq_true, h1, h2, h3]
   exact yc (z04 rfl (by simp only [sG, Nat.reduceEqDiff]; rfl) ⟨by rw [← hres, h1, h2, h3]; rfl, hx⟩)
  | true =>
  cases h4 : (v == 0) with
  | false =>
   simp (disch := omega) only [sB, Nat.reduceEqDiff, z2o, g1, z05 z1w one9, z05 z3x one9, z05 z3l z9e, z05 z4o one3, z07 agg9, z07 agg3, z07 zau, l1, l2, l3, l4, z17, Bool.false_eq_true, h1, h2, h3, h4]
   exact yc (z04 rfl (by simp only [sG, Nat.reduceEqDiff]; rfl) ⟨by rw [← hres, h1, h2, h3, h4]; rfl, hx⟩)
  | true =>
   simp (disch := omega) only [sB, Nat.reduceEqDiff, z2o, g1, z05 z1w one9, z05 z3x one9, z05 z3l z9e, z05 z4o one3, z05 z1v z59, z07 agg9, z07 agg3, z07 zau, z07 z5m, l1, l2, l3, l4, l5, z17, z0q Tryz.underlying23, h1, h2, h3, h4]
   exact yc (z04 rfl (by simp only [sG, Nat.reduceEqDiff]; rfl) ⟨by rw [← hres, h1, h2, h3, h4]; rfl, hx⟩)
end Go.Proofs.hq
end

section
namespace Go.Proofs.hq
open Go Go.RowKit Go.Hb
def nodeE (utf num : ByteArray → Bool) (flt : Int → Bool) (t : Tm) : Int :=
  if t.kind < 1 ∨ 5 < t.kind then 20 else if blankB t = false then 20 else if t.var < 0 then 20 else if t.kind = 5 ∧ (t.args.length = 0 ∨ 64 < t.args.length) then 20
  else if utf t.name = false then 21 else if 1000 < t.name.size then 21 else if t.kind = 3 ∧ num t.num = false then 22 else if t.kind = 4 ∧ flt t.bits = false then 23 else 0
def bndB (t : Tm) : Bool := decide (t.var < 0) || (t.kind == 5 && ((t.args.length : Int) == 0 || decide ((t.args.length : Int) > 64)))
theorem z79 {utf num : ByteArray → Bool} {flt : Int → Bool} {t : Tm} (h1 : ¬ (t.kind < 1 ∨ 5 < t.kind)) (h2 : blankB t = true) (h3 : bndB t = true) : nodeE utf num flt t = 20 := by
  rw [nodeE, if_neg h1, if_neg (by rw [h2]; simp)]
  unfold bndB at h3
  simp only [Bool.or_eq_true, Bool.and_eq_true, beq_iff_eq, decide_eq_true_eq] at h3
  by_cases hv : t.var < 0
  · rw [if_pos hv]
  · rw [if_neg hv, if_pos]
    rcases h3 with h | ⟨h, h' | h'⟩
    · exact absurd h hv
    · exact ⟨h, .inl (by omega)⟩
    · exact ⟨h, .inr (by omega)⟩
theorem z8d {utf num : ByteArray → Bool} {flt : Int → Bool} {t : Tm} (h1 : ¬ (t.kind < 1 ∨ 5 < t.kind)) (h2 : blankB t = true) (h3 : bndB t = false) :
    nodeE utf num flt t = if utf t.name = false then 21 else if 1000 < t.name.size then 21 else if t.kind = 3 ∧ num t.num = false then 22 else if t.kind = 4 ∧ flt t.bits = false then 23 else 0 := by
  rw [nodeE, if_neg h1, if_neg (by rw [h2]; simp)]
  unfold bndB at h3
  simp only [Bool.or_eq_false_iff, Bool.and_eq_false_iff, beq_eq_false_iff_ne, decide_eq_false_iff_not] at h3
  rw [if_neg h3.1, if_neg (fun h => by rcases h3.2 with h' | h' <;> first | exact h' h.1 | (have := h.2; omega))]
theorem zm2 : callable Tryz.prog 66 = true := by kernel_rfl
theorem zm3 : callable Tryz.prog 67 = true := by kernel_rfl
theorem zm4 : callable Tryz.prog 68 = true := by kernel_rfl
theorem zm5 : callable Tryz.prog 84 = true := by kernel_rfl
theorem zm6 : callable Tryz.prog 85 = true := by kernel_rfl
theorem zm7 : callable Tryz.prog 86 = true := by kernel_rfl
def TellsS (ok : Ok) (f : FuncId) (g : ByteArray → Bool) : Prop := ∀ (s : ByteArray) (H : Heap), s.size ≤ maxLen → H.wf → EvF Tryz.prog ok f [.string s] H fun v H' => v = .bool (g s) ∧ HX H H'
def TellsU (ok : Ok) (f : FuncId) (g : Int → Bool) : Prop := ∀ (n : Int) (H : Heap), u64 n → H.wf → EvF Tryz.prog ok f [.int .u64 n] H fun v H' => v = .bool (g n) ∧ HX H H'
variable {ok : Ok}
set_option maxRecDepth 10000 in
set_option maxHeartbeats 4000000 in
theorem znq {utf num : ByteArray → Bool} {flt : Int → Bool} (hk : ∀ args H, ok.K 78 args H = none) (hm : ok.testBit 78 = true) (hU : TellsS ok 84 utf) (hN : TellsS ok 85 num) (hF : TellsU ok 86 flt)
    {t : Tm} {cs : List Value} {H : Heap} (r : RepT H t cs) (hw : H.wf) : EvF Tryz.prog ok 78 [.agg ⟨cs⟩] H fun v H' => v = .int .i64 (nodeE utf num flt t) ∧ HX H H' := by
  obtain ⟨a, c, cells, rfl, b1, b2, b3, b4, b5, rl⟩ := r.inv
  have hx := (HX.refl hw).new (some (Blk.row [Value.int IntKind.i64 t.kind, Value.string t.name, Value.string t.num, Value.int IntKind.u64 t.bits, Value.int IntKind.i64 t.var, Value.slice a t.args.length c] 25))
  refine EvF.enter (hk _ _) Tryz.func78 hm rfl ?_
  (repeat refine ya ?_); refine yb ?_; simp (disch := first | omega | rfl) only [sB, initTm, dBox, Value.cells, one]
  (repeat refine ya ?_); refine yb ?_; simp (disch := first | omega | rfl) only [sB, Nat.reduceEqDiff, reduceCtorEq, cutC, z05 z1r one3, z07 agg3]
  (repeat refine ya ?_); refine yb ?_; simp (disch := first | omega | rfl) only [sB, Nat.reduceEqDiff, reduceCtorEq, cutC, z05 z1r one3, z07 agg3]
  (repeat refine ya ?_); refine yb ?_; simp (disch := first | omega | rfl) only [sB, Nat.reduceEqDiff, reduceCtorEq, cutC, z05 z1r one3, z07 agg3]
  (repeat refine ya ?_); refine yb ?_; simp (disch := first | omega | rfl) only [sB, Nat.reduceEqDiff, reduceCtorEq, cutC, z05 z1r one3, z07 agg3]
  (repeat refine ya ?_); refine yb ?_; simp (disch := first | omega | rfl) only [sB, Nat.reduceEqDiff, reduceCtorEq, cutC, z05 z1r one3, z07 agg3]
  refine EvC.frame (fun tm => tm.get 1 = some (.pointer (some ⟨H.next, 0, none⟩)) ∧ tm.get 3 = some (.bool (t.kind == 2)) ∧ tm.get 4 = some (.bool (t.kind == 5)) ∧ tm.get 5 = some (.bool (t.kind == 3)) ∧ tm.get 6 = some (.bool (t.kind == 4)) ∧ tm.get 7 = some (.bool (t.kind == 1))) ⟨by simp only [sG, Nat.reduceEqDiff, reduceCtorEq], by simp only [sG, Nat.reduceEqDiff, reduceCtorEq], by simp only [sG, Nat.reduceEqDiff, reduceCtorEq], by simp only [sG, Nat.reduceEqDiff, reduceCtorEq], by simp only [sG, Nat.reduceEqDiff, reduceCtorEq], by simp only [sG, Nat.reduceEqDiff, reduceCtorEq]⟩ ?_
  rintro tm ⟨g1, g3, g4, g5, g6, g7⟩
  refine ya ?_
  refine EvC.join (fun st => (1 ≤ t.kind ∧ t.kind ≤ 5) ∧ ∃ tm, st = ⟨tm, [], H.new (some (Blk.row [Value.int IntKind.i64 t.kind, Value.string t.name, Value.string t.num, Value.int IntKind.u64 t.bits, Value.int IntKind.i64 t.var, Value.slice a t.args.length c] 25))⟩ ∧ tm.get 1 = some (.pointer (some ⟨H.next, 0, none⟩)) ∧ tm.get 3 = some (.bool (t.kind == 2)) ∧ tm.get 4 = some (.bool (t.kind == 5)) ∧ tm.get 5 = some (.bool (t.kind == 3)) ∧ tm.get 6 = some (.bool (t.kind == 4)) ∧ tm.get 7 = some (.bool (t.kind == 1))) ?_ ?_
  ·
    have hk6 : t.kind = 1 ∨ t.kind = 2 ∨ t.kind = 3 ∨ t.kind = 4 ∨ t.kind = 5 ∨ (t.kind < 1 ∨ 5 < t.kind) := by omega
    rcases hk6 with h | h | h | h | h | h
    iterate 5
      · (repeat refine ya ?_); refine yb ?_; simp (disch := first | omega | rfl) only [sB, Nat.reduceEqDiff, g3, g4, g5, g6, g7, h, Int.reduceBEq, Bool.not_true, Bool.not_false, Bool.false_eq_true]
        refine yi (by simp only [sB, Nat.reduceEqDiff]) (ye ?_)
        try simp (disch := first | omega | rfl) only [z02]
        exact ⟨by omega, _, rfl, by simp only [sG, Nat.reduceEqDiff, g1], by simp only [sG, Nat.reduceEqDiff, g3, h, Int.reduceBEq], by simp only [sG, Nat.reduceEqDiff, g4, h, Int.reduceBEq], by simp only [sG, Nat.reduceEqDiff, g5, h, Int.reduceBEq], by simp only [sG, Nat.reduceEqDiff, g6, h, Int.reduceBEq], by simp only [sG, Nat.reduceEqDiff, g7, h, Int.reduceBEq]⟩
    · have q1 : (t.kind == 1) = false := by simp; omega
      have q2 : (t.kind == 2) = false := by simp; omega
      have q3 : (t.kind == 3) = false := by simp; omega
      have q4 : (t.kind == 4) = false := by simp; omega
      have q5 : (t.kind == 5) = false := by simp; omega
      (repeat refine ya ?_); refine yb ?_; simp (disch := first | omega | rfl) only [sB, Nat.reduceEqDiff, g3, g4, g5, g6, g7, q1, q2, q3, q4, q5, Bool.not_false]
      refine yh (by simp only [sB, Nat.reduceEqDiff]) ?_
      (repeat refine ya ?_); refine yb ?_; simp (disch := first | omega | rfl) only [sA]
      refine yc ?_
      try simp (disch := first | omega | rfl) only [z01]
      exact z04 rfl (by simp only [sG, Nat.reduceEqDiff]; rfl) ⟨by rw [nodeE, if_pos h], hx⟩
  rintro st ⟨⟨hk1, hk5⟩, tm1, rfl, f1, f3, f4, f5, f6, f7⟩
  clear g1 g3 g4 g5 g6 g7 tm
  have hno : ¬ (t.kind < 1 ∨ 5 < t.kind) := by omega
  try simp (disch := first | omega | rfl) only [z02]
  refine ya ?_
  refine EvC.join (fun st => blankB t = true ∧ ∃ tm, st = ⟨tm, [], H.new (some (Blk.row [Value.int IntKind.i64 t.kind, Value.string t.name, Value.string t.num, Value.int IntKind.u64 t.bits, Value.int IntKind.i64 t.var, Value.slice a t.args.length c] 25))⟩ ∧ tm.get 1 = some (.pointer (some ⟨H.next, 0, none⟩)) ∧ tm.get 3 = some (.bool (t.kind == 2)) ∧ tm.get 4 = some (.bool (t.kind == 5)) ∧ tm.get 5 = some (.bool (t.kind == 3)) ∧ tm.get 6 = some (.bool (t.kind == 4)) ∧ tm.get 7 = some (.bool (t.kind == 1))) ?_ ?_
  ·
    refine ya (yb ?_)
    refine EL.join 11 (fun tm => tm.get 54 = some (.bool (!(t.name.toList == []) && (!(t.kind == 2) && !(t.kind == 5)))) ∧ tm.get 1 = some (.pointer (some ⟨H.next, 0, none⟩)) ∧ tm.get 3 = some (.bool (t.kind == 2)) ∧ tm.get 4 = some (.bool (t.kind == 5)) ∧ tm.get 5 = some (.bool (t.kind == 3)) ∧ tm.get 6 = some (.bool (t.kind == 4)) ∧ tm.get 7 = some (.bool (t.kind == 1))) ?_ ?_
    · cases h1 : (t.name.toList == []) <;> cases h2 : (t.kind == 2) <;> cases h3 : (t.kind == 5)
      all_goals
        try simp (disch := first | omega | rfl) only [sB, Nat.reduceEqDiff, cutC, z0n, f1, f3, f4, f5, f6, f7, h1, h2, h3, z05 z1w one9, z07 agg9, z17, Bool.not_true, Bool.not_false, Bool.false_eq_true, Bool.and_true, Bool.and_false]
    clear f1 f3 f4 f5 f6 f7
    rintro tm2 ⟨g, f1, f3, f4, f5, f6, f7⟩
    obtain ⟨x0, hy0⟩ : ∃ x, x = (!(t.name.toList == []) && (!(t.kind == 2) && !(t.kind == 5))) := ⟨_, rfl⟩
    rw [← hy0] at g
    refine EL.join 9 (fun tm => tm.get 63 = some (.bool (x0 || (!(t.num.toList == []) && !(t.kind == 3)))) ∧ tm.get 1 = some (.pointer (some ⟨H.next, 0, none⟩)) ∧ tm.get 3 = some (.bool (t.kind == 2)) ∧ tm.get 4 = some (.bool (t.kind == 5)) ∧ tm.get 5 = some (.bool (t.kind == 3)) ∧ tm.get 6 = some (.bool (t.kind == 4)) ∧ tm.get 7 = some (.bool (t.kind == 1))) ?_ ?_
    · clear hy0; cases h1 : (t.num.toList == []) <;> cases h2 : (t.kind == 3) <;> cases x0
      all_goals
        try simp (disch := first | omega | rfl) only [sB, Nat.reduceEqDiff, cutC, z0n, g, f1, f3, f4, f5, f6, f7, h1, h2, z05 z3x one9, z07 agg9, z17, Bool.not_true, Bool.not_false, Bool.false_eq_true, Bool.and_true, Bool.and_false, Bool.or_false, Bool.or_true]
    clear f1 f3 f4 f5 f6 f7 g
    rintro tm3 ⟨g, f1, f3, f4, f5, f6, f7⟩
    obtain ⟨x1, hx1⟩ : ∃ x, x = (x0 || (!(t.num.toList == []) && !(t.kind == 3))) := ⟨_, rfl⟩
    rw [← hx1] at g
    refine EL.join 9 (fun tm => tm.get 72 = some (.bool (x1 || (!(t.bits == 0) && !(t.kind == 4)))) ∧ tm.get 1 = some (.pointer (some ⟨H.next, 0, none⟩)) ∧ tm.get 3 = some (.bool (t.kind == 2)) ∧ tm.get 4 = some (.bool (t.kind == 5)) ∧ tm.get 5 = some (.bool (t.kind == 3)) ∧ tm.get 6 = some (.bool (t.kind == 4)) ∧ tm.get 7 = some (.bool (t.kind == 1))) ?_ ?_
    · clear hx1; cases h1 : (t.bits == 0) <;> cases h2 : (t.kind == 4) <;> cases x1
      all_goals
        try simp (disch := first | omega | rfl) only [sB, Nat.reduceEqDiff, cutC, g, f1, f3, f4, f5, f6, f7, h1, h2, z05 z3l z9e, z07 zau, Bool.not_true, Bool.not_false, Bool.false_eq_true, bne, Bool.and_true, Bool.and_false, Bool.or_false, Bool.or_true]
    clear f1 f3 f4 f5 f6 f7 g
    rintro tm4 ⟨g, f1, f3, f4, f5, f6, f7⟩
    obtain ⟨x2, hx2⟩ : ∃ x, x = (x1 || (!(t.bits == 0) && !(t.kind == 4))) := ⟨_, rfl⟩
    rw [← hx2] at g
    refine EL.join 9 (fun tm => tm.get 81 = some (.bool (x2 || (!(t.var == 0) && !(t.kind == 1)))) ∧ tm.get 1 = some (.pointer (some ⟨H.next, 0, none⟩)) ∧ tm.get 3 = some (.bool (t.kind == 2)) ∧ tm.get 4 = some (.bool (t.kind == 5)) ∧ tm.get 5 = some (.bool (t.kind == 3)) ∧ tm.get 6 = some (.bool (t.kind == 4)) ∧ tm.get 7 = some (.bool (t.kind == 1))) ?_ ?_
    · clear hx2; cases h1 : (t.var == 0) <;> cases h2 : (t.kind == 1) <;> cases x2
      all_goals
        try simp (disch := first | omega | rfl) only [sB, Nat.reduceEqDiff, cutC, g, f1, f3, f4, f5, f6, f7, h1, h2, z05 z4o one3, z07 agg3, Bool.not_true, Bool.not_false, Bool.false_eq_true, bne, Bool.and_true, Bool.and_false, Bool.or_false, Bool.or_true]
    clear f1 f3 f4 f5 f6 f7 g
    rintro tm5 ⟨g, f1, f3, f4, f5, f6, f7⟩
    obtain ⟨x3, hx3⟩ : ∃ x, x = (x2 || (!(t.var == 0) && !(t.kind == 1))) := ⟨_, rfl⟩
    rw [← hx3] at g
    refine EL.join 10 (fun tm => tm.get 91 = some (.bool (x3 || (decide ((t.args.length : Int) > 0) && !(t.kind == 5)))) ∧ tm.get 1 = some (.pointer (some ⟨H.next, 0, none⟩)) ∧ tm.get 3 = some (.bool (t.kind == 2)) ∧ tm.get 4 = some (.bool (t.kind == 5)) ∧ tm.get 5 = some (.bool (t.kind == 3)) ∧ tm.get 6 = some (.bool (t.kind == 4)) ∧ tm.get 7 = some (.bool (t.kind == 1))) ?_ ?_
    · clear hx3; cases h1 : decide ((t.args.length : Int) > 0) <;> cases h2 : (t.kind == 5) <;> cases x3
      all_goals
        try simp (disch := first | omega | rfl) only [sB, Nat.reduceEqDiff, cutC, g, f1, f3, f4, f5, f6, f7, h1, h2, z05 z1v z59, z07 z5m, z0q Tryz.underlying23, Bool.not_true, Bool.not_false, Bool.false_eq_true, Bool.and_true, Bool.and_false, Bool.or_false, Bool.or_true]
    clear f1 f3 f4 f5 f6 f7 g
    rintro tm6 ⟨g, f1, f3, f4, f5, f6, f7⟩
    obtain ⟨x4, hx4⟩ : ∃ x, x = (x3 || (decide ((t.args.length : Int) > 0) && !(t.kind == 5))) := ⟨_, rfl⟩
    rw [← hx4] at g
    try simp (disch := first | omega | rfl) only [sA]
    have hb : blankB t = !x4 := by
      have hgt : ((t.args.length : Int) == 0) = !decide ((t.args.length : Int) > 0) := by
        rw [Bool.eq_iff_iff]; simp
      rw [hx4, hx3, hx2, hx1, hy0]
      unfold blankB isE
      rw [hgt]
      cases (t.name.toList == []) <;> cases (t.num.toList == []) <;> cases (t.bits == 0) <;> cases (t.var == 0) <;> cases decide ((t.args.length : Int) > 0) <;> cases (t.kind == 1) <;> cases (t.kind == 2) <;> cases (t.kind == 3) <;> cases (t.kind == 4) <;> cases (t.kind == 5) <;> rfl
    cases x4 with
    | true =>
      refine yh (by simp only [sA, g]) ?_
      (repeat refine ya ?_); refine yb ?_; simp (disch := first | omega | rfl) only [sA]
      refine yc ?_
      try simp (disch := first | omega | rfl) only [z01]
      exact z04 rfl (by simp only [sG]; rfl) ⟨by rw [nodeE, if_neg hno, if_pos (show blankB t = false from hb)], hx⟩
    | false =>
      refine yi (by simp only [sA, g]) (ye ?_)
      try simp (disch := first | omega | rfl) only [z02]
      exact ⟨hb, _, rfl, f1, f3, f4, f5, f6, f7⟩
  rintro st ⟨hbl, tm, rfl, f1, f3, f4, f5, f6, f7⟩
  try simp (disch := first | omega | rfl) only [z02]
  refine ya ?_
  refine EvC.join (fun st => bndB t = false ∧ ∃ tm, st = ⟨tm, [], H.new (some (Blk.row [Value.int IntKind.i64 t.kind, Value.string t.name, Value.string t.num, Value.int IntKind.u64 t.bits, Value.int IntKind.i64 t.var, Value.slice a t.args.length c] 25))⟩ ∧ tm.get 1 = some (.pointer (some ⟨H.next, 0, none⟩)) ∧ tm.get 3 = some (.bool (t.kind == 2)) ∧ tm.get 4 = some (.bool (t.kind == 5)) ∧ tm.get 5 = some (.bool (t.kind == 3)) ∧ tm.get 6 = some (.bool (t.kind == 4)) ∧ tm.get 7 = some (.bool (t.kind == 1))) ?_ ?_
  ·
    refine ya (yb ?_)
    cases h1 : decide (t.var < 0) <;> cases h2 : (t.kind == 5) <;> cases h3 : ((t.args.length : Int) == 0) <;> cases h4 : decide ((t.args.length : Int) > 64)
    all_goals
      try simp (disch := first | omega | rfl) only [sB, Nat.reduceEqDiff, cutC, f1, f4, h1, h2, h3, h4, z05 z4o one3, z05 z1v z59, z07 agg3, z07 z5m, z0q Tryz.underlying23, Bool.false_eq_true]
    all_goals
      first
      | (have hb : bndB t = true := by unfold bndB; rw [h1, h2, h3, h4]; rfl
         refine yh (by simp only [sB, Nat.reduceEqDiff]; done) ?_
         (repeat refine ya ?_); refine yb ?_; simp (disch := first | omega | rfl) only [sA]
         refine yc ?_
         try simp (disch := first | omega | rfl) only [z01]
         exact z04 rfl (by simp only [sG, Nat.reduceEqDiff]; rfl) ⟨by rw [z79 hno hbl hb], hx⟩)
      | (have hb : bndB t = false := by unfold bndB; rw [h1, h2, h3, h4]; rfl
         refine yi (by simp only [sB, Nat.reduceEqDiff]; done) (ye ?_)
         try simp (disch := first | omega | rfl) only [z02]
         exact ⟨hb, _, rfl, by simp only [sG, Nat.reduceEqDiff]; exact f1, by simp only [sG, Nat.reduceEqDiff]; exact f3, by simp only [sG, Nat.reduceEqDiff, f4, h2], by simp only [sG, Nat.reduceEqDiff]; exact f5, by simp only [sG, Nat.reduceEqDiff]; exact f6, by simp only [sG, Nat.reduceEqDiff]; exact f7⟩)
  rintro st ⟨hbd, tm, rfl, f1, f3, f4, f5, f6, f7⟩
  try simp (disch := first | omega | rfl) only [z02]
  have hne := z8d (utf := utf) (num := num) (flt := flt) hno hbl hbd
  (repeat refine ya ?_); refine yb ?_; simp (disch := first | omega | rfl) only [sB, Nat.reduceEqDiff, cutC, f1, z05 z1w one9, z07 agg9, z08 zm5]
  refine (hU t.name _ b2 hx.wf).mono ?_
  rintro v H2 ⟨rfl, hx2⟩
  have hxx := hx.trans hx2
  have hb2 : H2.get H.next = some (Blk.row [Value.int IntKind.i64 t.kind, Value.string t.name, Value.string t.num, Value.int IntKind.u64 t.bits, Value.int IntKind.i64 t.var, Value.slice a t.args.length c] 25) := by rw [hx2.keep _ (Nat.lt_succ_self _), Heap.get_new, if_pos rfl]
  have l1 : H2.load ⟨H.next, 1, none⟩ 1 = some [.string t.name] := by simp only [Heap.load, Heap.cells, hb2]; rfl
  have l2 : H2.load ⟨H.next, 2, none⟩ 1 = some [.string t.num] := by simp only [Heap.load, Heap.cells, hb2]; rfl
  have l3 : H2.load ⟨H.next, 3, none⟩ 1 = some [.int .u64 t.bits] := by simp only [Heap.load, Heap.cells, hb2]; rfl
  try simp (disch := first | omega | rfl) only []
  refine EvC.frame (fun tm => tm.get 8 = some (.bool (utf t.name)) ∧ tm.get 1 = some (.pointer (some ⟨H.next, 0, none⟩)) ∧ tm.get 3 = some (.bool (t.kind == 2)) ∧ tm.get 4 = some (.bool (t.kind == 5)) ∧ tm.get 5 = some (.bool (t.kind == 3)) ∧ tm.get 6 = some (.bool (t.kind == 4)) ∧ tm.get 7 = some (.bool (t.kind == 1))) ⟨by simp only [sG, Nat.reduceEqDiff], by simp only [sG, Nat.reduceEqDiff]; exact f1, by simp only [sG, Nat.reduceEqDiff]; exact f3, by simp only [sG, Nat.reduceEqDiff]; exact f4, by simp only [sG, Nat.reduceEqDiff]; exact f5, by simp only [sG, Nat.reduceEqDiff]; exact f6, by simp only [sG, Nat.reduceEqDiff]; exact f7⟩ ?_
  clear f1 f3 f4 f5 f6 f7
  rintro tm ⟨f8, f1, f3, f4, f5, f6, f7⟩
  cases hu : utf t.name with
  | false =>
    rw [hu] at f8
    (repeat refine ya ?_); refine yb ?_; simp (disch := first | omega | rfl) only [sB, Nat.reduceEqDiff, f8, Bool.not_false]
    refine yh (by simp only [sB, Nat.reduceEqDiff]) ?_
    (repeat refine ya ?_); refine yb ?_; simp (disch := first | omega | rfl) only [sA]
    refine yc ?_
    try simp (disch := first | omega | rfl) only [z01]
    exact z04 rfl (by simp only [sG, Nat.reduceEqDiff]; rfl) ⟨by rw [hne, if_pos hu], hxx⟩
  | true =>
  rw [hu] at f8
  rw [if_neg (by rw [hu]; simp)] at hne
  by_cases hlen : 1000 < t.name.size
  · have hd : decide ((t.name.size : Int) > 1000) = true := decide_eq_true (by omega)
    (repeat refine ya ?_); refine yb ?_; simp (disch := first | omega | rfl) only [sB, Nat.reduceEqDiff, f8, f1, l1, hd, z05 z1w one9, z07 agg9, z1c Tryz.underlying9, Bool.not_true, Bool.false_eq_true]
    refine yh (by simp only [sB, Nat.reduceEqDiff]) ?_
    (repeat refine ya ?_); refine yb ?_; simp (disch := first | omega | rfl) only [sA]
    refine yc ?_
    try simp (disch := first | omega | rfl) only [z01]
    exact z04 rfl (by simp only [sG, Nat.reduceEqDiff]; rfl) ⟨by rw [hne, if_pos hlen], hxx⟩
  rw [if_neg hlen] at hne
  have hd : decide ((t.name.size : Int) > 1000) = false := decide_eq_false (by omega)
  (repeat refine ya ?_); refine yb ?_; simp (disch := first | omega | rfl) only [sB, Nat.reduceEqDiff, f8, f1, l1, hd, z05 z1w one9, z07 agg9, z1c Tryz.underlying9, Bool.not_true, Bool.false_eq_true]
  refine yi (by simp only [sB, Nat.reduceEqDiff]) (ye ?_)
  try simp (disch := first | omega | rfl) only [z02]
  refine EvC.frame (fun tm => tm.get 1 = some (.pointer (some ⟨H.next, 0, none⟩)) ∧ tm.get 3 = some (.bool (t.kind == 2)) ∧ tm.get 4 = some (.bool (t.kind == 5)) ∧ tm.get 5 = some (.bool (t.kind == 3)) ∧ tm.get 6 = some (.bool (t.kind == 4)) ∧ tm.get 7 = some (.bool (t.kind == 1))) ⟨by simp only [sG, Nat.reduceEqDiff]; exact f1, by simp only [sG, Nat.reduceEqDiff]; exact f3, by simp only [sG, Nat.reduceEqDiff]; exact f4, by simp only [sG, Nat.reduceEqDiff]; exact f5, by simp only [sG, Nat.reduceEqDiff]; exact f6, by simp only [sG, Nat.reduceEqDiff]; exact f7⟩ ?_
  clear f1 f3 f4 f5 f6 f7 f8
  rintro tm ⟨f1, f3, f4, f5, f6, f7⟩
  by_cases k3 : t.kind = 3
  · have q3 : (t.kind == 3) = true := by simp [k3]
    have q4 : (t.kind == 4) = false := by simp [k3]
    rw [q3] at f5
    rw [q4] at f6
    (repeat refine ya ?_); refine yb ?_; simp (disch := first | omega | rfl) only [sA, f5]
    refine yh (by simp only [sB]) ?_
    (repeat refine ya ?_); refine yb ?_; simp (disch := first | omega | rfl) only [sB, Nat.reduceEqDiff, f1, l2, z05 z3x one9, z07 agg9, z08 zm6]
    refine (hN t.num _ b3 hx2.wf).mono ?_
    rintro v H3 ⟨rfl, hx3⟩
    try simp (disch := first | omega | rfl) only []
    (repeat refine ya ?_); refine yb ?_; simp (disch := first | omega | rfl) only [sB, Nat.reduceEqDiff]
    cases hn : num t.num with
    | false =>
      refine yh (by simp only [sB, Nat.reduceEqDiff]; rfl) ?_
      (repeat refine ya ?_); refine yb ?_; simp (disch := first | omega | rfl) only [sA]
      refine yc ?_
      try simp (disch := first | omega | rfl) only [z01]
      exact z04 rfl (by simp only [sG, Nat.reduceEqDiff]; rfl) ⟨by rw [hne, if_pos ⟨k3, hn⟩], hxx.trans hx3⟩
    | true =>
      refine yi (by simp only [sB, Nat.reduceEqDiff]; rfl) (ye ?_)
      try simp (disch := first | omega | rfl) only [z02]
      (repeat refine ya ?_); refine yb ?_; simp (disch := first | omega | rfl) only [sB, Nat.reduceEqDiff, f6]
      refine yi (by simp only [sB, Nat.reduceEqDiff]) (ye ?_)
      try simp (disch := first | omega | rfl) only [z02]
      (repeat refine ya ?_); refine yb ?_; simp (disch := first | omega | rfl) only [sA]
      refine yc ?_
      try simp (disch := first | omega | rfl) only []
      exact z04 rfl (by simp only [sG, Nat.reduceEqDiff]; rfl) ⟨by rw [hne, if_neg (by rw [hn]; simp), if_neg (by rw [k3]; simp)], hxx.trans hx3⟩
  have q3 : (t.kind == 3) = false := by simp [k3]
  rw [q3] at f5
  rw [if_neg (fun h => k3 h.1)] at hne
  (repeat refine ya ?_); refine yb ?_; simp (disch := first | omega | rfl) only [sA, f5]
  refine yi (by simp only [sB]) (ye ?_)
  try simp (disch := first | omega | rfl) only [z02]
  by_cases k4 : t.kind = 4
  · have q4 : (t.kind == 4) = true := by simp [k4]
    rw [q4] at f6
    (repeat refine ya ?_); refine yb ?_; simp (disch := first | omega | rfl) only [sB, Nat.reduceEqDiff, f6]
    refine yh (by simp only [sB, Nat.reduceEqDiff]) ?_
    (repeat refine ya ?_); refine yb ?_; simp (disch := first | omega | rfl) only [sB, Nat.reduceEqDiff, f1, l3, z05 z3l z9e, z07 zau, z08 zm7]
    refine (hF t.bits _ b4 hx2.wf).mono ?_
    rintro v H3 ⟨rfl, hx3⟩
    try simp (disch := first | omega | rfl) only []
    (repeat refine ya ?_); refine yb ?_; simp (disch := first | omega | rfl) only [sB, Nat.reduceEqDiff]
    cases hn : flt t.bits with
    | false =>
      refine yh (by simp only [sB, Nat.reduceEqDiff]; rfl) ?_
      (repeat refine ya ?_); refine yb ?_; simp (disch := first | omega | rfl) only [sA]
      refine yc ?_
      try simp (disch := first | omega | rfl) only [z01]
      exact z04 rfl (by simp only [sG, Nat.reduceEqDiff]; rfl) ⟨by rw [hne, if_pos ⟨k4, hn⟩], hxx.trans hx3⟩
    | true =>
      refine yi (by simp only [sB, Nat.reduceEqDiff]; rfl) (ye ?_)
      try simp (disch := first | omega | rfl) only [z02]
      (repeat refine ya ?_); refine yb ?_; simp (disch := first | omega | rfl) only [sA]
      refine yc ?_
      try simp (disch := first | omega | rfl) only []
      exact z04 rfl (by simp only [sG, Nat.reduceEqDiff]; rfl) ⟨by rw [hne, if_neg (by rw [hn]; simp)], hxx.trans hx3⟩
  have q4 : (t.kind == 4) = false := by simp [k4]
  rw [q4] at f6
  (repeat refine ya ?_); refine yb ?_; simp (disch := first | omega | rfl) only [sB, Nat.reduceEqDiff, f6]
  refine yi (by simp only [sB, Nat.reduceEqDiff]) (ye ?_)
  try simp (disch := first | omega | rfl) only [z02]
  (repeat refine ya ?_); refine yb ?_; simp (disch := first | omega | rfl) only [sA]
  refine yc ?_
  try simp (disch := first | omega | rfl) only []
  exact z04 rfl (by simp only [sG, Nat.reduceEqDiff]; rfl) ⟨by rw [hne, if_neg (fun h => k4 h.1)], hxx⟩
end Go.Proofs.hq
end

section
namespace Go.Proofs.hq
open Go Go.RowKit Go.Hb
def rho0 (n : Int) : Operand → Value
 | .func f => .func (.func f) #[] #[]
 | _ => .int .u64 n
theorem zav (n : Int) (d : Option Tmp) (k : Tmp) (ats : Array TypeId) (ty : TypeId) (pos : String) (af : Array Edge) (g : Option (Nat × Bool)) :
  pureRun Tryz.prog (execOp (rho0 n) ⟨d, .call ⟨.value (.func 40), #[.tmp k], ats⟩, ty, pos, af, g⟩) = some (.value (.float .f64 n.toNat)) := by kernel_rfl
theorem zji (l : List Value) : dcall1 Tryz.prog 40 l = none := by
 unfold dcall1
 rw [Tryz.func40]
 rfl
theorem z2u {d : Option Tmp} {k : Tmp} {ats : Array TypeId} {ty : TypeId} {pos : String} {af : Array Edge} {g : Option (Nat × Bool)} {tm : Tr Value} {H : Heap} {n : Int} (hv : tm.get k = some (.int .u64 n)) :
  dop Tryz.prog ⟨d, .call ⟨.value (.func 40), #[.tmp k], ats⟩, ty, pos, af, g⟩ (ev tm) H = some (.val (.float .f64 n.toNat) H) := by
 have hρ : ∀ y ∈ (⟨d, .call ⟨.value (.func 40), #[.tmp k], ats⟩, ty, pos, af, g⟩ : Oper).op.operands, ev tm y = rho0 n y := by
  intro y hy
  simp [Op.operands, Call.operands] at hy
  rcases hy with rfl | rfl
  ·rfl
  ·show (tm.get k).getD junk = _
   rw [hv]; rfl
 have e : dop Tryz.prog ⟨d, .call ⟨.value (.func 40), #[.tmp k], ats⟩, ty, pos, af, g⟩ (ev tm) H = dflat Tryz.prog ⟨d, .call ⟨.value (.func 40), #[.tmp k], ats⟩, ty, pos, af, g⟩ (ev tm) H := by
  simp only [dop, ev, zji]
 have hf : allFlat (ev tm) (⟨d, .call ⟨.value (.func 40), #[.tmp k], ats⟩, ty, pos, af, g⟩ : Oper) = true := by
  unfold allFlat
  rw [List.all_eq_true]
  intro y hy
  rw [hρ y (Array.mem_toList_iff.1 hy)]
  simp [Op.operands, Call.operands] at hy
  rcases hy with rfl | rfl <;> rfl
 rw [e]
 unfold dflat
 rw [hf, execOp_congr _ (by intro cs b h; cases h) hρ, zav]
 rfl
end Go.Proofs.hq
end
