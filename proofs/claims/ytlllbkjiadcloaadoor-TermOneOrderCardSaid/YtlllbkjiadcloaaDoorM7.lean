import Derived.Test.YtlllbkjiadcloaaDoorM6
import Derived.Test.YtlllbkjiadcloaaDoorM3
/- Lemmas on the program's own code, towards the laws of this folder, part 7. Conditions: as each lemma says. -/
-- Z6
section
/- The orders: floats by their bits, the reference's. -/
namespace Go.Proofs.YtlllbkjiadcloaaDoor.hb
open Go Go.RowKit Go.Hb
variable {ok : Ok}
set_option maxRecDepth 10000
attribute [local irreducible] LX LG EL STG SOP SGO SGD SAL SRD SEF SEG SLK SCK ES

def iOr (k : IntKind) (a b : Int) : Int := k.wrap (BitVec.ofInt k.bits a ||| BitVec.ofInt k.bits b).toNat
theorem dBin_or {P : Program} {H : Heap} {t : TypeId} {x y : Operand} {k : IntKind} {a b : Int} : dBin P .or t x y (.int k a) (.int k b) H = some (.val (.int k (iOr k a b)) H) := by
  simp [dBin, dnil, flat, eqGuard, binOp, Op.intBits, Sem.bind, -BitVec.toNat_or, -BitVec.toNat_ofInt]; rfl
def iNot (a : Int) : Int := IntKind.u64.wrap (BitVec.ofInt IntKind.u64.bits IntKind.u64.max ^^^ BitVec.ofInt IntKind.u64.bits a).toNat
theorem dUn_xor {P : Program} {H : Heap} {a : Int} : dUn P .xor (.int .u64 a) H = some (.val (.int .u64 (iNot a)) H) := by
  have e : Op.unary .xor (.int .u64 a) = (pure (.int .u64 (iNot a)) : Sem Value) := rfl
  unfold dUn
  rw [e]
  rfl
theorem iNot_eq {q : Nat} (h : q < 18446744073709551616) : iNot (q : Int) = ((18446744073709551615 - q : Nat) : Int) := by
  show IntKind.u64.wrap (((BitVec.ofInt 64 18446744073709551615 : BitVec 64) ^^^ BitVec.ofInt 64 (q : Int)).toNat : Int) = _
  have e : ((BitVec.ofInt 64 18446744073709551615 : BitVec 64) ^^^ BitVec.ofInt 64 (q : Int)).toNat = 18446744073709551615 - q := by
    have h1 : (BitVec.ofInt 64 18446744073709551615 : BitVec 64) = BitVec.allOnes 64 := by decide
    have h2 : (BitVec.ofInt 64 (q : Int)).toNat = q := by
      rw [BitVec.ofInt_natCast, BitVec.toNat_ofNat]
      exact Nat.mod_eq_of_lt h
    rw [h1, BitVec.allOnes_xor, BitVec.toNat_not, h2]
  rw [e, wrap_u64_nat _ (by omega)]
theorem iOr_eq {q : Nat} (h : q < 9223372036854775808) : iOr .u64 (q : Int) 9223372036854775808 = ((q + 9223372036854775808 : Nat) : Int) := by
  unfold iOr
  have e : (BitVec.ofInt IntKind.u64.bits (q : Int) ||| BitVec.ofInt IntKind.u64.bits 9223372036854775808).toNat = q + 9223372036854775808 := by
    rw [BitVec.toNat_or]
    have h1 : (BitVec.ofInt IntKind.u64.bits (q : Int)).toNat = q := by
      rw [BitVec.ofInt_natCast, BitVec.toNat_ofNat]
      exact Nat.mod_eq_of_lt (Nat.lt_of_lt_of_le h (by decide))
    have h2 : (BitVec.ofInt IntKind.u64.bits 9223372036854775808).toNat = 9223372036854775808 := by decide +kernel
    rw [h1, h2, Nat.or_comm]
    have := Nat.two_pow_add_eq_or_of_lt (i := 63) (b := q) h 1
    rw [show (2 : Nat) ^ 63 * 1 = 9223372036854775808 from rfl] at this
    omega
  rw [e, wrap_u64_nat _ (by omega)]
def keyF (n : Int) : Int := if 9223372036854775808 ≤ n then 18446744073709551615 - n else n + 9223372036854775808
def fltZ (a b : Int) : Int := cmpZ (keyF a) (keyF b)

theorem pow63 : (2 : Int) ^ (min (63 : Int).toNat IntKind.u64.bits) = 9223372036854775808 := by rfl
theorem shr63_hi {P : Program} {H : Heap} {t : TypeId} {x y : Operand} {q : Nat} (h : 9223372036854775808 ≤ q) (h' : q < 18446744073709551616) : dBin P .shr t x y (.int .u64 (q : Int)) (.int .u64 63) H = some (.val (.int .u64 1) H) := by
  rw [dBin_shr (by omega), pow63, Int.fdiv_eq_ediv_of_nonneg _ (by omega)]
  rw [show (q : Int) / 9223372036854775808 = 1 by omega]
theorem shr63_lo {P : Program} {H : Heap} {t : TypeId} {x y : Operand} {q : Nat} (h : q < 9223372036854775808) : dBin P .shr t x y (.int .u64 (q : Int)) (.int .u64 63) H = some (.val (.int .u64 0) H) := by
  rw [dBin_shr (by omega), pow63, Int.fdiv_eq_ediv_of_nonneg _ (by omega)]
  rw [show (q : Int) / 9223372036854775808 = 0 by omega]
theorem keyF_hi {q : Nat} (h : 9223372036854775808 ≤ q) (h' : q < 18446744073709551616) : iNot (q : Int) = keyF q := by
  rw [iNot_eq h', keyF, if_pos (by omega)]; omega
theorem keyF_lo {q : Nat} (h : q < 9223372036854775808) : iOr .u64 (q : Int) 9223372036854775808 = keyF q := by
  rw [iOr_eq h, keyF, if_neg (by omega)]; omega

-- hornbeamref02.Floats
set_option maxHeartbeats 2000000 in
theorem fltR_ev {a b : Nat} {H : Heap} (ha : a < 18446744073709551616) (hb : b < 18446744073709551616) : EvF Tryd.prog okT 58 [.int .u64 (a : Int), .int .u64 (b : Int)] H fun v H' => v = .int .i64 (fltZ a b) ∧ H' = H := by
  have n1 : ((1 : Int) == 1) = true := rfl
  have n0 : ((0 : Int) == 1) = false := rfl
  refine EvF.enter rfl Tryd.func58 (by decide) rfl ?_
  by_cases h1 : 9223372036854775808 ≤ a <;> by_cases h2 : 9223372036854775808 ≤ b
  · repeat' (first | refine EvC.seq ?_ | refine EvC.scope ?_ | refine EvC.block ?_ | (refine EvC.skip ?_) | (refine EvC.exit ?_) | (refine EvC.ret ?_; try simp only [thenC_ret, inBlock_ret]) | (refine EvC.reg ?_; simp (config := { maxSteps := 2000000 }) (disch := first | omega | rfl) only [initTm, EL_cons, EL_nil, LX_val, dop_assign, dop_move, dop_bin, dBin_lss, ev_const, ev_tmp, Tr.get_put, put_some, Nat.reduceEqDiff, Option.getD_some, Nat.zero_add, reduceCtorEq, if_true, if_false, thenC_normal, dBin_eql, dop_un, shr63_hi h1 ha, shr63_hi h2 hb, n1, dUn_xor, keyF_hi h1 ha, keyF_hi h2 hb]) | (refine EvC.condT ?_ ?_; simp (config := { maxSteps := 2000000 }) (disch := first | omega | rfl) only [ev_tmp, Tr.get_put, Nat.reduceEqDiff, Option.getD_some, reduceCtorEq, if_true, if_false]; refine EvC_go ?_) | (refine EvC.condF ?_ ?_; simp (config := { maxSteps := 2000000 }) (disch := first | omega | rfl) only [ev_tmp, Tr.get_put, Nat.reduceEqDiff, Option.getD_some, reduceCtorEq, if_true, if_false]; refine EvC_go ?_))
    by_cases h3 : keyF a < keyF b
    · repeat' (first | refine EvC.seq ?_ | refine EvC.scope ?_ | refine EvC.block ?_ | (refine EvC.skip ?_) | (refine EvC.exit ?_) | (refine EvC.ret ?_; try simp only [thenC_ret, inBlock_ret]) | (refine EvC.reg ?_; simp (config := { maxSteps := 2000000 }) (disch := first | omega | rfl) only [EL_cons, EL_nil, LX_val, dop_assign, ev_const, put_some, thenC_normal, decide_eq_true]) | (refine EvC.condT ?_ ?_; simp (config := { maxSteps := 2000000 }) (disch := first | omega | rfl) only [ev_tmp, Tr.get_put, Nat.reduceEqDiff, Option.getD_some, reduceCtorEq, if_true, if_false, decide_eq_true]; refine EvC_go ?_))
      exact leave_one rfl (by first | (simp only [Tr.get_put, Nat.reduceEqDiff, reduceCtorEq, if_true, if_false, Option.some.injEq]; rfl) | simp only []) ⟨by rw [fltZ, cmpZ_lt h3], rfl⟩
    · by_cases h4 : keyF b < keyF a
      · repeat' (first | refine EvC.seq ?_ | refine EvC.scope ?_ | refine EvC.block ?_ | (refine EvC.skip ?_; try simp only [thenC_normal]) | (refine EvC.exit ?_) | (refine EvC.ret ?_; try simp only [thenC_ret, inBlock_ret]) | (refine EvC.reg ?_; simp (config := { maxSteps := 2000000 }) (disch := first | omega | rfl) only [EL_cons, EL_nil, LX_val, dop_assign, dop_move, dop_bin, dBin_gtr, ev_const, ev_tmp, Tr.get_put, put_some, Nat.reduceEqDiff, Option.getD_some, reduceCtorEq, if_true, if_false, thenC_normal, decide_eq_true, decide_eq_false]) | (refine EvC.condT ?_ ?_; simp (config := { maxSteps := 2000000 }) (disch := first | omega | rfl) only [ev_tmp, Tr.get_put, Nat.reduceEqDiff, Option.getD_some, reduceCtorEq, if_true, if_false, decide_eq_false]; refine EvC_go ?_) | (refine EvC.condF ?_ ?_; simp (config := { maxSteps := 2000000 }) (disch := first | omega | rfl) only [ev_tmp, Tr.get_put, Nat.reduceEqDiff, Option.getD_some, reduceCtorEq, if_true, if_false, decide_eq_false]; refine EvC_go ?_))
        exact leave_one rfl (by first | (simp only [Tr.get_put, Nat.reduceEqDiff, reduceCtorEq, if_true, if_false, Option.some.injEq]; rfl) | simp only []) ⟨by rw [fltZ, cmpZ_gt h4], rfl⟩
      · repeat' (first | refine EvC.seq ?_ | refine EvC.scope ?_ | refine EvC.block ?_ | (refine EvC.skip ?_; try simp only [thenC_normal]) | (refine EvC.exit ?_) | (refine EvC.ret ?_; try simp only [thenC_ret, inBlock_ret]) | (refine EvC.reg ?_; simp (config := { maxSteps := 2000000 }) (disch := first | omega | rfl) only [EL_cons, EL_nil, LX_val, dop_assign, dop_move, dop_bin, dBin_gtr, ev_const, ev_tmp, Tr.get_put, put_some, Nat.reduceEqDiff, Option.getD_some, reduceCtorEq, if_true, if_false, thenC_normal, decide_eq_false]) | (refine EvC.condT ?_ ?_; simp (config := { maxSteps := 2000000 }) (disch := first | omega | rfl) only [ev_tmp, Tr.get_put, Nat.reduceEqDiff, Option.getD_some, reduceCtorEq, if_true, if_false, decide_eq_false]; refine EvC_go ?_) | (refine EvC.condF ?_ ?_; simp (config := { maxSteps := 2000000 }) (disch := first | omega | rfl) only [ev_tmp, Tr.get_put, Nat.reduceEqDiff, Option.getD_some, reduceCtorEq, if_true, if_false, decide_eq_false]; refine EvC_go ?_))
        exact leave_one rfl (by first | (simp only [Tr.get_put, Nat.reduceEqDiff, reduceCtorEq, if_true, if_false, Option.some.injEq]; rfl) | simp only []) ⟨by rw [fltZ, cmpZ_eq (by omega)], rfl⟩
  · repeat' (first | refine EvC.seq ?_ | refine EvC.scope ?_ | refine EvC.block ?_ | (refine EvC.skip ?_) | (refine EvC.exit ?_) | (refine EvC.ret ?_; try simp only [thenC_ret, inBlock_ret]) | (refine EvC.reg ?_; simp (config := { maxSteps := 2000000 }) (disch := first | omega | rfl) only [initTm, EL_cons, EL_nil, LX_val, dop_assign, dop_move, dop_bin, dBin_lss, ev_const, ev_tmp, Tr.get_put, put_some, Nat.reduceEqDiff, Option.getD_some, Nat.zero_add, reduceCtorEq, if_true, if_false, thenC_normal, dBin_eql, dop_un, shr63_hi h1 ha, shr63_lo (Nat.lt_of_not_le h2), n1, n0, dUn_xor, dBin_or, keyF_hi h1 ha, keyF_lo (Nat.lt_of_not_le h2)]) | (refine EvC.condT ?_ ?_; simp (config := { maxSteps := 2000000 }) (disch := first | omega | rfl) only [ev_tmp, Tr.get_put, Nat.reduceEqDiff, Option.getD_some, reduceCtorEq, if_true, if_false]; refine EvC_go ?_) | (refine EvC.condF ?_ ?_; simp (config := { maxSteps := 2000000 }) (disch := first | omega | rfl) only [ev_tmp, Tr.get_put, Nat.reduceEqDiff, Option.getD_some, reduceCtorEq, if_true, if_false]; refine EvC_go ?_))
    by_cases h3 : keyF a < keyF b
    · repeat' (first | refine EvC.seq ?_ | refine EvC.scope ?_ | refine EvC.block ?_ | (refine EvC.skip ?_) | (refine EvC.exit ?_) | (refine EvC.ret ?_; try simp only [thenC_ret, inBlock_ret]) | (refine EvC.reg ?_; simp (config := { maxSteps := 2000000 }) (disch := first | omega | rfl) only [EL_cons, EL_nil, LX_val, dop_assign, ev_const, put_some, thenC_normal, decide_eq_true]) | (refine EvC.condT ?_ ?_; simp (config := { maxSteps := 2000000 }) (disch := first | omega | rfl) only [ev_tmp, Tr.get_put, Nat.reduceEqDiff, Option.getD_some, reduceCtorEq, if_true, if_false, decide_eq_true]; refine EvC_go ?_))
      exact leave_one rfl (by first | (simp only [Tr.get_put, Nat.reduceEqDiff, reduceCtorEq, if_true, if_false, Option.some.injEq]; rfl) | simp only []) ⟨by rw [fltZ, cmpZ_lt h3], rfl⟩
    · by_cases h4 : keyF b < keyF a
      · repeat' (first | refine EvC.seq ?_ | refine EvC.scope ?_ | refine EvC.block ?_ | (refine EvC.skip ?_; try simp only [thenC_normal]) | (refine EvC.exit ?_) | (refine EvC.ret ?_; try simp only [thenC_ret, inBlock_ret]) | (refine EvC.reg ?_; simp (config := { maxSteps := 2000000 }) (disch := first | omega | rfl) only [EL_cons, EL_nil, LX_val, dop_assign, dop_move, dop_bin, dBin_gtr, ev_const, ev_tmp, Tr.get_put, put_some, Nat.reduceEqDiff, Option.getD_some, reduceCtorEq, if_true, if_false, thenC_normal, decide_eq_true, decide_eq_false]) | (refine EvC.condT ?_ ?_; simp (config := { maxSteps := 2000000 }) (disch := first | omega | rfl) only [ev_tmp, Tr.get_put, Nat.reduceEqDiff, Option.getD_some, reduceCtorEq, if_true, if_false, decide_eq_false]; refine EvC_go ?_) | (refine EvC.condF ?_ ?_; simp (config := { maxSteps := 2000000 }) (disch := first | omega | rfl) only [ev_tmp, Tr.get_put, Nat.reduceEqDiff, Option.getD_some, reduceCtorEq, if_true, if_false, decide_eq_false]; refine EvC_go ?_))
        exact leave_one rfl (by first | (simp only [Tr.get_put, Nat.reduceEqDiff, reduceCtorEq, if_true, if_false, Option.some.injEq]; rfl) | simp only []) ⟨by rw [fltZ, cmpZ_gt h4], rfl⟩
      · repeat' (first | refine EvC.seq ?_ | refine EvC.scope ?_ | refine EvC.block ?_ | (refine EvC.skip ?_; try simp only [thenC_normal]) | (refine EvC.exit ?_) | (refine EvC.ret ?_; try simp only [thenC_ret, inBlock_ret]) | (refine EvC.reg ?_; simp (config := { maxSteps := 2000000 }) (disch := first | omega | rfl) only [EL_cons, EL_nil, LX_val, dop_assign, dop_move, dop_bin, dBin_gtr, ev_const, ev_tmp, Tr.get_put, put_some, Nat.reduceEqDiff, Option.getD_some, reduceCtorEq, if_true, if_false, thenC_normal, decide_eq_false]) | (refine EvC.condT ?_ ?_; simp (config := { maxSteps := 2000000 }) (disch := first | omega | rfl) only [ev_tmp, Tr.get_put, Nat.reduceEqDiff, Option.getD_some, reduceCtorEq, if_true, if_false, decide_eq_false]; refine EvC_go ?_) | (refine EvC.condF ?_ ?_; simp (config := { maxSteps := 2000000 }) (disch := first | omega | rfl) only [ev_tmp, Tr.get_put, Nat.reduceEqDiff, Option.getD_some, reduceCtorEq, if_true, if_false, decide_eq_false]; refine EvC_go ?_))
        exact leave_one rfl (by first | (simp only [Tr.get_put, Nat.reduceEqDiff, reduceCtorEq, if_true, if_false, Option.some.injEq]; rfl) | simp only []) ⟨by rw [fltZ, cmpZ_eq (by omega)], rfl⟩
  · repeat' (first | refine EvC.seq ?_ | refine EvC.scope ?_ | refine EvC.block ?_ | (refine EvC.skip ?_) | (refine EvC.exit ?_) | (refine EvC.ret ?_; try simp only [thenC_ret, inBlock_ret]) | (refine EvC.reg ?_; simp (config := { maxSteps := 2000000 }) (disch := first | omega | rfl) only [initTm, EL_cons, EL_nil, LX_val, dop_assign, dop_move, dop_bin, dBin_lss, ev_const, ev_tmp, Tr.get_put, put_some, Nat.reduceEqDiff, Option.getD_some, Nat.zero_add, reduceCtorEq, if_true, if_false, thenC_normal, dBin_eql, dop_un, shr63_lo (Nat.lt_of_not_le h1), shr63_hi h2 hb, n1, n0, dUn_xor, dBin_or, keyF_lo (Nat.lt_of_not_le h1), keyF_hi h2 hb]) | (refine EvC.condT ?_ ?_; simp (config := { maxSteps := 2000000 }) (disch := first | omega | rfl) only [ev_tmp, Tr.get_put, Nat.reduceEqDiff, Option.getD_some, reduceCtorEq, if_true, if_false]; refine EvC_go ?_) | (refine EvC.condF ?_ ?_; simp (config := { maxSteps := 2000000 }) (disch := first | omega | rfl) only [ev_tmp, Tr.get_put, Nat.reduceEqDiff, Option.getD_some, reduceCtorEq, if_true, if_false]; refine EvC_go ?_))
    by_cases h3 : keyF a < keyF b
    · repeat' (first | refine EvC.seq ?_ | refine EvC.scope ?_ | refine EvC.block ?_ | (refine EvC.skip ?_) | (refine EvC.exit ?_) | (refine EvC.ret ?_; try simp only [thenC_ret, inBlock_ret]) | (refine EvC.reg ?_; simp (config := { maxSteps := 2000000 }) (disch := first | omega | rfl) only [EL_cons, EL_nil, LX_val, dop_assign, ev_const, put_some, thenC_normal, decide_eq_true]) | (refine EvC.condT ?_ ?_; simp (config := { maxSteps := 2000000 }) (disch := first | omega | rfl) only [ev_tmp, Tr.get_put, Nat.reduceEqDiff, Option.getD_some, reduceCtorEq, if_true, if_false, decide_eq_true]; refine EvC_go ?_))
      exact leave_one rfl (by first | (simp only [Tr.get_put, Nat.reduceEqDiff, reduceCtorEq, if_true, if_false, Option.some.injEq]; rfl) | simp only []) ⟨by rw [fltZ, cmpZ_lt h3], rfl⟩
    · by_cases h4 : keyF b < keyF a
      · repeat' (first | refine EvC.seq ?_ | refine EvC.scope ?_ | refine EvC.block ?_ | (refine EvC.skip ?_; try simp only [thenC_normal]) | (refine EvC.exit ?_) | (refine EvC.ret ?_; try simp only [thenC_ret, inBlock_ret]) | (refine EvC.reg ?_; simp (config := { maxSteps := 2000000 }) (disch := first | omega | rfl) only [EL_cons, EL_nil, LX_val, dop_assign, dop_move, dop_bin, dBin_gtr, ev_const, ev_tmp, Tr.get_put, put_some, Nat.reduceEqDiff, Option.getD_some, reduceCtorEq, if_true, if_false, thenC_normal, decide_eq_true, decide_eq_false]) | (refine EvC.condT ?_ ?_; simp (config := { maxSteps := 2000000 }) (disch := first | omega | rfl) only [ev_tmp, Tr.get_put, Nat.reduceEqDiff, Option.getD_some, reduceCtorEq, if_true, if_false, decide_eq_false]; refine EvC_go ?_) | (refine EvC.condF ?_ ?_; simp (config := { maxSteps := 2000000 }) (disch := first | omega | rfl) only [ev_tmp, Tr.get_put, Nat.reduceEqDiff, Option.getD_some, reduceCtorEq, if_true, if_false, decide_eq_false]; refine EvC_go ?_))
        exact leave_one rfl (by first | (simp only [Tr.get_put, Nat.reduceEqDiff, reduceCtorEq, if_true, if_false, Option.some.injEq]; rfl) | simp only []) ⟨by rw [fltZ, cmpZ_gt h4], rfl⟩
      · repeat' (first | refine EvC.seq ?_ | refine EvC.scope ?_ | refine EvC.block ?_ | (refine EvC.skip ?_; try simp only [thenC_normal]) | (refine EvC.exit ?_) | (refine EvC.ret ?_; try simp only [thenC_ret, inBlock_ret]) | (refine EvC.reg ?_; simp (config := { maxSteps := 2000000 }) (disch := first | omega | rfl) only [EL_cons, EL_nil, LX_val, dop_assign, dop_move, dop_bin, dBin_gtr, ev_const, ev_tmp, Tr.get_put, put_some, Nat.reduceEqDiff, Option.getD_some, reduceCtorEq, if_true, if_false, thenC_normal, decide_eq_false]) | (refine EvC.condT ?_ ?_; simp (config := { maxSteps := 2000000 }) (disch := first | omega | rfl) only [ev_tmp, Tr.get_put, Nat.reduceEqDiff, Option.getD_some, reduceCtorEq, if_true, if_false, decide_eq_false]; refine EvC_go ?_) | (refine EvC.condF ?_ ?_; simp (config := { maxSteps := 2000000 }) (disch := first | omega | rfl) only [ev_tmp, Tr.get_put, Nat.reduceEqDiff, Option.getD_some, reduceCtorEq, if_true, if_false, decide_eq_false]; refine EvC_go ?_))
        exact leave_one rfl (by first | (simp only [Tr.get_put, Nat.reduceEqDiff, reduceCtorEq, if_true, if_false, Option.some.injEq]; rfl) | simp only []) ⟨by rw [fltZ, cmpZ_eq (by omega)], rfl⟩
  · repeat' (first | refine EvC.seq ?_ | refine EvC.scope ?_ | refine EvC.block ?_ | (refine EvC.skip ?_) | (refine EvC.exit ?_) | (refine EvC.ret ?_; try simp only [thenC_ret, inBlock_ret]) | (refine EvC.reg ?_; simp (config := { maxSteps := 2000000 }) (disch := first | omega | rfl) only [initTm, EL_cons, EL_nil, LX_val, dop_assign, dop_move, dop_bin, dBin_lss, ev_const, ev_tmp, Tr.get_put, put_some, Nat.reduceEqDiff, Option.getD_some, Nat.zero_add, reduceCtorEq, if_true, if_false, thenC_normal, dBin_eql, shr63_lo (Nat.lt_of_not_le h1), shr63_lo (Nat.lt_of_not_le h2), n0, dBin_or, keyF_lo (Nat.lt_of_not_le h1), keyF_lo (Nat.lt_of_not_le h2)]) | (refine EvC.condT ?_ ?_; simp (config := { maxSteps := 2000000 }) (disch := first | omega | rfl) only [ev_tmp, Tr.get_put, Nat.reduceEqDiff, Option.getD_some, reduceCtorEq, if_true, if_false]; refine EvC_go ?_) | (refine EvC.condF ?_ ?_; simp (config := { maxSteps := 2000000 }) (disch := first | omega | rfl) only [ev_tmp, Tr.get_put, Nat.reduceEqDiff, Option.getD_some, reduceCtorEq, if_true, if_false]; refine EvC_go ?_))
    by_cases h3 : keyF a < keyF b
    · repeat' (first | refine EvC.seq ?_ | refine EvC.scope ?_ | refine EvC.block ?_ | (refine EvC.skip ?_) | (refine EvC.exit ?_) | (refine EvC.ret ?_; try simp only [thenC_ret, inBlock_ret]) | (refine EvC.reg ?_; simp (config := { maxSteps := 2000000 }) (disch := first | omega | rfl) only [EL_cons, EL_nil, LX_val, dop_assign, ev_const, put_some, thenC_normal, decide_eq_true]) | (refine EvC.condT ?_ ?_; simp (config := { maxSteps := 2000000 }) (disch := first | omega | rfl) only [ev_tmp, Tr.get_put, Nat.reduceEqDiff, Option.getD_some, reduceCtorEq, if_true, if_false, decide_eq_true]; refine EvC_go ?_))
      exact leave_one rfl (by first | (simp only [Tr.get_put, Nat.reduceEqDiff, reduceCtorEq, if_true, if_false, Option.some.injEq]; rfl) | simp only []) ⟨by rw [fltZ, cmpZ_lt h3], rfl⟩
    · by_cases h4 : keyF b < keyF a
      · repeat' (first | refine EvC.seq ?_ | refine EvC.scope ?_ | refine EvC.block ?_ | (refine EvC.skip ?_; try simp only [thenC_normal]) | (refine EvC.exit ?_) | (refine EvC.ret ?_; try simp only [thenC_ret, inBlock_ret]) | (refine EvC.reg ?_; simp (config := { maxSteps := 2000000 }) (disch := first | omega | rfl) only [EL_cons, EL_nil, LX_val, dop_assign, dop_move, dop_bin, dBin_gtr, ev_const, ev_tmp, Tr.get_put, put_some, Nat.reduceEqDiff, Option.getD_some, reduceCtorEq, if_true, if_false, thenC_normal, decide_eq_true, decide_eq_false]) | (refine EvC.condT ?_ ?_; simp (config := { maxSteps := 2000000 }) (disch := first | omega | rfl) only [ev_tmp, Tr.get_put, Nat.reduceEqDiff, Option.getD_some, reduceCtorEq, if_true, if_false, decide_eq_false]; refine EvC_go ?_) | (refine EvC.condF ?_ ?_; simp (config := { maxSteps := 2000000 }) (disch := first | omega | rfl) only [ev_tmp, Tr.get_put, Nat.reduceEqDiff, Option.getD_some, reduceCtorEq, if_true, if_false, decide_eq_false]; refine EvC_go ?_))
        exact leave_one rfl (by first | (simp only [Tr.get_put, Nat.reduceEqDiff, reduceCtorEq, if_true, if_false, Option.some.injEq]; rfl) | simp only []) ⟨by rw [fltZ, cmpZ_gt h4], rfl⟩
      · repeat' (first | refine EvC.seq ?_ | refine EvC.scope ?_ | refine EvC.block ?_ | (refine EvC.skip ?_; try simp only [thenC_normal]) | (refine EvC.exit ?_) | (refine EvC.ret ?_; try simp only [thenC_ret, inBlock_ret]) | (refine EvC.reg ?_; simp (config := { maxSteps := 2000000 }) (disch := first | omega | rfl) only [EL_cons, EL_nil, LX_val, dop_assign, dop_move, dop_bin, dBin_gtr, ev_const, ev_tmp, Tr.get_put, put_some, Nat.reduceEqDiff, Option.getD_some, reduceCtorEq, if_true, if_false, thenC_normal, decide_eq_false]) | (refine EvC.condT ?_ ?_; simp (config := { maxSteps := 2000000 }) (disch := first | omega | rfl) only [ev_tmp, Tr.get_put, Nat.reduceEqDiff, Option.getD_some, reduceCtorEq, if_true, if_false, decide_eq_false]; refine EvC_go ?_) | (refine EvC.condF ?_ ?_; simp (config := { maxSteps := 2000000 }) (disch := first | omega | rfl) only [ev_tmp, Tr.get_put, Nat.reduceEqDiff, Option.getD_some, reduceCtorEq, if_true, if_false, decide_eq_false]; refine EvC_go ?_))
        exact leave_one rfl (by first | (simp only [Tr.get_put, Nat.reduceEqDiff, reduceCtorEq, if_true, if_false, Option.some.injEq]; rfl) | simp only []) ⟨by rw [fltZ, cmpZ_eq (by omega)], rfl⟩

end Go.Proofs.YtlllbkjiadcloaaDoor.hb
end

-- Z7
section
/- The orders: floats, the program's. -/
namespace Go.Proofs.YtlllbkjiadcloaaDoor.hb
open Go Go.RowKit Go.Hb
variable {ok : Ok}
set_option maxRecDepth 10000
attribute [local irreducible] LX LG EL STG SOP SGO SGD SAL SRD SEF SEG SLK SCK ES

theorem dBin_lssF {P : Program} {H : Heap} {t : TypeId} {x y : Operand} {k : FloatKind} {a b : Nat} : dBin P .lss t x y (.float k a) (.float k b) H = some (.val (.bool (k.format.order a b == some .lt)) H) := by
  simp [dBin, dnil, flat, eqGuard, binOp, Op.floatCmp, Sem.bind]; rfl
def ordF (a b : Nat) : Option Ordering := FloatKind.f64.format.order a b
def fltO (a b : Nat) : Int := if ordF a b == some .lt then -1 else if ordF a b == some .gt then 1 else 0

-- cmp.isNaN[float64]
theorem nanF_ev {a : Nat} {H : Heap} (h : (FloatKind.f64.format.order a a != some .eq) = false) : EvF Tryd.prog okT 109 [.float .f64 a] H fun v H' => v = .bool false ∧ H' = H := by
  refine EvF.enter rfl Tryd.func109 (by decide) rfl ?_
  repeat' (first | refine EvC.seq ?_ | refine EvC.scope ?_ | refine EvC.block ?_ | (refine EvC.skip ?_) | (refine EvC.exit ?_) | (refine EvC.ret ?_; try simp only [thenC_ret, inBlock_ret]) | (refine EvC.reg ?_; simp (config := { maxSteps := 2000000 }) (disch := first | omega | rfl) only [initTm, EL_cons, EL_nil, LX_val, dop_assign, dop_move, dop_bin, ev_const, ev_tmp, Tr.get_put, put_some, Nat.reduceEqDiff, Option.getD_some, reduceCtorEq, if_true, if_false, thenC_normal, dBin_neqF, h]))
  exact leave_one rfl (by first | (simp only [Tr.get_put, Nat.reduceEqDiff, reduceCtorEq, if_true, if_false]; rfl) | simp only [Tr.get_put, Nat.reduceEqDiff, reduceCtorEq, if_true, if_false]) ⟨rfl, rfl⟩

-- cmp.Compare[float64]
theorem cmpF_ev {a b : Nat} {H : Heap} (ha : (FloatKind.f64.format.order a a != some .eq) = false) (hb : (FloatKind.f64.format.order b b != some .eq) = false) : EvF Tryd.prog okT 88 [.float .f64 a, .float .f64 b] H fun v H' => v = .int .i64 (fltO a b) ∧ H' = H := by
  refine EvF.enter rfl Tryd.func88 (by decide) rfl ?_
  repeat' (first | refine EvC.seq ?_ | refine EvC.scope ?_ | refine EvC.block ?_ | (refine EvC.skip ?_) | (refine EvC.exit ?_) | (refine EvC.ret ?_; try simp only [thenC_ret, inBlock_ret]) | (refine EvC.reg ?_; simp (config := { maxSteps := 2000000 }) (disch := first | omega | rfl) only [initTm, EL_cons, EL_nil, LX_val, LX_call, dop_assign, dop_move, ev_const, ev_tmp, Tr.get_put, put_some, Nat.reduceEqDiff, Option.getD_some, Nat.zero_add, reduceCtorEq, if_true, if_false, List.map_cons, List.map_nil, thenC_normal, cl109]))
  refine (nanF_ev ha).mono ?_
  rintro v H1 ⟨rfl, rfl⟩
  repeat' (first | refine EvC.seq ?_ | refine EvC.scope ?_ | refine EvC.block ?_ | (refine EvC.skip ?_) | (refine EvC.exit ?_) | (refine EvC.ret ?_; try simp only [thenC_ret, inBlock_ret]) | (refine EvC.reg ?_; simp (config := { maxSteps := 2000000 }) (disch := first | omega | rfl) only [EL_cons, EL_nil, LX_val, LX_call, dop_assign, dop_move, ev_tmp, Tr.get_put, put_some, Nat.reduceEqDiff, Option.getD_some, reduceCtorEq, if_true, if_false, List.map_cons, List.map_nil, thenC_normal, cl109]))
  refine (nanF_ev hb).mono ?_
  rintro v H2 ⟨rfl, rfl⟩
  have hl : FloatKind.f64.format.order a b = ordF a b := rfl
  cases h1 : (ordF a b == some .lt)
  · cases h2 : (ordF a b == some .gt)
    · repeat' (first | refine EvC.seq ?_ | refine EvC.scope ?_ | refine EvC.block ?_ | (refine EvC.skip ?_; try simp only [thenC_normal]) | (refine EvC.exit ?_) | (refine EvC.ret ?_; try simp only [thenC_ret, inBlock_ret]) | (refine EvC.reg ?_; simp (config := { maxSteps := 2000000 }) (disch := first | omega | rfl) only [EL_cons, EL_nil, LX_val, dop_assign, dop_move, dop_bin, ev_const, ev_tmp, Tr.get_put, put_some, Nat.reduceEqDiff, Option.getD_some, reduceCtorEq, if_true, if_false, thenC_normal, dBin_lssF, dBin_gtrF, hl, h1, h2]) | (refine EvC.condT ?_ ?_; simp (config := { maxSteps := 2000000 }) (disch := first | omega | rfl) only [ev_tmp, Tr.get_put, Nat.reduceEqDiff, Option.getD_some, reduceCtorEq, if_true, if_false]; refine EvC_go ?_) | (refine EvC.condF ?_ ?_; simp (config := { maxSteps := 2000000 }) (disch := first | omega | rfl) only [ev_tmp, Tr.get_put, Nat.reduceEqDiff, Option.getD_some, reduceCtorEq, if_true, if_false]; refine EvC_go ?_))
      exact leave_one rfl (by first | (simp only [Tr.get_put, Nat.reduceEqDiff, reduceCtorEq, if_true, if_false, Option.some.injEq]; rfl) | simp only []) ⟨by simp [fltO, h1, h2], rfl⟩
    · repeat' (first | refine EvC.seq ?_ | refine EvC.scope ?_ | refine EvC.block ?_ | (refine EvC.skip ?_; try simp only [thenC_normal]) | (refine EvC.exit ?_) | (refine EvC.ret ?_; try simp only [thenC_ret, inBlock_ret]) | (refine EvC.reg ?_; simp (config := { maxSteps := 2000000 }) (disch := first | omega | rfl) only [EL_cons, EL_nil, LX_val, dop_assign, dop_move, dop_bin, ev_const, ev_tmp, Tr.get_put, put_some, Nat.reduceEqDiff, Option.getD_some, reduceCtorEq, if_true, if_false, thenC_normal, dBin_lssF, dBin_gtrF, hl, h1, h2]) | (refine EvC.condT ?_ ?_; simp (config := { maxSteps := 2000000 }) (disch := first | omega | rfl) only [ev_tmp, Tr.get_put, Nat.reduceEqDiff, Option.getD_some, reduceCtorEq, if_true, if_false]; refine EvC_go ?_) | (refine EvC.condF ?_ ?_; simp (config := { maxSteps := 2000000 }) (disch := first | omega | rfl) only [ev_tmp, Tr.get_put, Nat.reduceEqDiff, Option.getD_some, reduceCtorEq, if_true, if_false]; refine EvC_go ?_))
      exact leave_one rfl (by first | (simp only [Tr.get_put, Nat.reduceEqDiff, reduceCtorEq, if_true, if_false, Option.some.injEq]; rfl) | simp only []) ⟨by simp [fltO, h1, h2], rfl⟩
  · repeat' (first | refine EvC.seq ?_ | refine EvC.scope ?_ | refine EvC.block ?_ | (refine EvC.skip ?_; try simp only [thenC_normal]) | (refine EvC.exit ?_) | (refine EvC.ret ?_; try simp only [thenC_ret, inBlock_ret]) | (refine EvC.reg ?_; simp (config := { maxSteps := 2000000 }) (disch := first | omega | rfl) only [EL_cons, EL_nil, LX_val, dop_assign, dop_move, dop_bin, ev_const, ev_tmp, Tr.get_put, put_some, Nat.reduceEqDiff, Option.getD_some, reduceCtorEq, if_true, if_false, thenC_normal, dBin_lssF, hl, h1]) | (refine EvC.condT ?_ ?_; simp (config := { maxSteps := 2000000 }) (disch := first | omega | rfl) only [ev_tmp, Tr.get_put, Nat.reduceEqDiff, Option.getD_some, reduceCtorEq, if_true, if_false]; refine EvC_go ?_) | (refine EvC.condF ?_ ?_; simp (config := { maxSteps := 2000000 }) (disch := first | omega | rfl) only [ev_tmp, Tr.get_put, Nat.reduceEqDiff, Option.getD_some, reduceCtorEq, if_true, if_false]; refine EvC_go ?_))
    exact leave_one rfl (by first | (simp only [Tr.get_put, Nat.reduceEqDiff, reduceCtorEq, if_true, if_false, Option.some.injEq]; rfl) | simp only []) ⟨by simp [fltO, h1], rfl⟩

end Go.Proofs.YtlllbkjiadcloaaDoor.hb
end

-- Z8
section
/- Floats, the plain law: the order by value is the order by bits. -/
namespace Go.Proofs.YtlllbkjiadcloaaDoor.hb
open Go Go.RowKit Go.Hb

def expF (g : Nat) : Nat := g / 4503599627370496 - 1
def manF (g : Nat) : Nat := if g < 4503599627370496 then g else 4503599627370496 + g % 4503599627370496
def valF (g : Nat) : Nat := manF g * 2 ^ expF g

theorem valF_lt {g h : Nat} (l : g < h) : valF g < valF h := by
  unfold valF
  by_cases e : expF g = expF h
  · rw [e]
    refine Nat.mul_lt_mul_of_pos_right ?_ (Nat.two_pow_pos _)
    unfold manF expF at *
    split <;> split <;> omega
  · have e' : expF g < expF h := by unfold expF at *; omega
    have h1 : manF g < 9007199254740992 := by unfold manF; split <;> omega
    have h2 : 4503599627370496 ≤ manF h := by unfold manF expF at *; split <;> omega
    have h3 : 2 ^ (expF g + 1) ≤ 2 ^ expF h := Nat.pow_le_pow_right (by omega) e'
    have h4 : manF g * 2 ^ expF g < 9007199254740992 * 2 ^ expF g := Nat.mul_lt_mul_of_pos_right h1 (Nat.two_pow_pos _)
    have h5 : 4503599627370496 * 2 ^ expF h ≤ manF h * 2 ^ expF h := Nat.mul_le_mul_right _ h2
    have h6 : 4503599627370496 * 2 ^ (expF g + 1) ≤ 4503599627370496 * 2 ^ expF h := Nat.mul_le_mul_left _ h3
    rw [Nat.pow_succ] at h6
    omega

theorem valF_eq_iff {g h : Nat} : valF g = valF h ↔ g = h := by
  constructor
  · intro e
    rcases Nat.lt_trichotomy g h with l | l | l
    · have := valF_lt l; omega
    · exact l
    · have := valF_lt l; omega
  · rintro rfl; rfl
theorem valF_lt_iff {g h : Nat} : valF g < valF h ↔ g < h := by
  constructor
  · intro e
    rcases Nat.lt_trichotomy g h with l | l | l
    · exact l
    · subst l; omega
    · have := valF_lt l; omega
  · exact valF_lt

theorem read_fin {w : Nat} (h : w % 9223372036854775808 < 9218868437227405312) :
    Ieee.double.read w = .number (w / 9223372036854775808 % 2 == 1) (manF (w % 9223372036854775808)) ((expF (w % 9223372036854775808) : Int) - 1074) := by
  rw [read_eq]
  generalize w % 9223372036854775808 = g at h
  split
  · rename_i h1
    have e1 : manF g = g := by unfold manF; rw [if_pos h1]
    have e2 : expF g = 0 := by unfold expF; omega
    rw [e1, e2]; rfl
  · rename_i h1
    have e1 : manF g = 4503599627370496 + g % 4503599627370496 := by unfold manF; rw [if_neg h1]
    rw [e1]
    congr 1
    first | done | (unfold expF; omega)

theorem compare_mul {x y : Int} {c : Nat} (hc : 0 < c) : compare (x * c) (y * c) = compare x y := by
  have hc' : (0 : Int) < c := by omega
  rcases Int.lt_trichotomy x y with h | h | h
  · rw [Int.compare_eq_lt.2 h, Int.compare_eq_lt.2 (Int.mul_lt_mul_of_pos_right h hc')]
  · subst h; rw [Int.compare_eq_eq.2 rfl, Int.compare_eq_eq.2 rfl]
  · rw [Int.compare_eq_gt.2 h, Int.compare_eq_gt.2 (Int.mul_lt_mul_of_pos_right h hc')]
def svF (s : Bool) (x : Nat) : Int := if s then -(x : Int) else x
theorem signed_eq (s : Bool) (m k : Nat) : Ieee.signed s m k = svF s (m * 2 ^ k) := by
  unfold Ieee.signed svF
  rw [Nat.shiftLeft_eq]
theorem svF_mul (s : Bool) (x c : Nat) : svF s (x * c) = svF s x * c := by
  unfold svF
  cases s
  · simp
  · simp [Int.neg_mul]
theorem order_num (s t : Bool) (m n i j : Nat) : Ieee.Datum.order (.number s m ((i : Int) - 1074)) (.number t n ((j : Int) - 1074)) = some (compare (svF s (m * 2 ^ i)) (svF t (n * 2 ^ j))) := by
  show some (compare (Ieee.signed s m (((i : Int) - 1074) - min ((i : Int) - 1074) ((j : Int) - 1074)).toNat) (Ieee.signed t n (((j : Int) - 1074) - min ((i : Int) - 1074) ((j : Int) - 1074)).toNat)) = _
  have e1 : (((i : Int) - 1074) - min ((i : Int) - 1074) ((j : Int) - 1074)).toNat = i - min i j := by omega
  have e2 : (((j : Int) - 1074) - min ((i : Int) - 1074) ((j : Int) - 1074)).toNat = j - min i j := by omega
  rw [e1, e2, signed_eq, signed_eq]
  have f1 : m * 2 ^ i = m * 2 ^ (i - min i j) * 2 ^ min i j := by rw [Nat.mul_assoc, ← Nat.pow_add]; congr 2; omega
  have f2 : n * 2 ^ j = n * 2 ^ (j - min i j) * 2 ^ min i j := by rw [Nat.mul_assoc, ← Nat.pow_add]; congr 2; omega
  rw [f1, f2, svF_mul s (m * 2 ^ (i - min i j)), svF_mul t (n * 2 ^ (j - min i j)), compare_mul (Nat.two_pow_pos _)]
theorem ordF_fin {v w : Nat} (hv : v % 9223372036854775808 < 9218868437227405312) (hw : w % 9223372036854775808 < 9218868437227405312) :
    ordF v w = some (compare (svF (v / 9223372036854775808 % 2 == 1) (valF (v % 9223372036854775808))) (svF (w / 9223372036854775808 % 2 == 1) (valF (w % 9223372036854775808)))) := by
  show Ieee.Datum.order (Ieee.double.read v) (Ieee.double.read w) = _
  rw [read_fin hv, read_fin hw, order_num]; rfl

def sgnF (v : Nat) : Int := svF (v / 9223372036854775808 % 2 == 1) (valF (v % 9223372036854775808))
theorem sgnF_lo {v : Nat} (h : v < 9223372036854775808) : sgnF v = valF v := by
  have e1 : (v / 9223372036854775808 % 2 == 1) = false := beq_eq_false_iff_ne.2 (by omega)
  have e2 : v % 9223372036854775808 = v := by omega
  unfold sgnF
  rw [e1, e2, svF, if_neg Bool.false_ne_true]
theorem sgnF_hi {v : Nat} (h : 9223372036854775808 ≤ v) (h' : v < 18446744073709551616) : sgnF v = -(valF (v - 9223372036854775808) : Int) := by
  have e1 : (v / 9223372036854775808 % 2 == 1) = true := beq_iff_eq.2 (by omega)
  have e2 : v % 9223372036854775808 = v - 9223372036854775808 := by omega
  unfold sgnF
  rw [e1, e2, svF, if_pos rfl]
theorem sgnF_lt {v w : Nat} (hv : v < 18446744073709551616) (hw : w < 18446744073709551616) (nv : v ≠ 9223372036854775808) (nw : w ≠ 9223372036854775808) : sgnF v < sgnF w ↔ keyF v < keyF w := by
  have z : ∀ g, 0 < g → 0 < valF g := fun g h => by have := valF_lt h; omega
  unfold keyF
  by_cases h1 : v < 9223372036854775808 <;> by_cases h2 : w < 9223372036854775808
  · rw [sgnF_lo h1, sgnF_lo h2, if_neg (by omega), if_neg (by omega)]
    have := @valF_lt_iff v w
    omega
  · rw [sgnF_lo h1, sgnF_hi (by omega) hw, if_neg (by omega), if_pos (by omega)]
    have := z (w - 9223372036854775808) (by omega)
    omega
  · rw [sgnF_hi (by omega) hv, sgnF_lo h2, if_pos (by omega), if_neg (by omega)]
    have := z (v - 9223372036854775808) (by omega)
    omega
  · rw [sgnF_hi (by omega) hv, sgnF_hi (by omega) hw, if_pos (by omega), if_pos (by omega)]
    have := @valF_lt_iff (w - 9223372036854775808) (v - 9223372036854775808)
    omega
theorem fltO_eq {v w : Nat} (hv : v < 18446744073709551616) (hw : w < 18446744073709551616) (nv : v ≠ 9223372036854775808) (nw : w ≠ 9223372036854775808)
    (fv : v % 9223372036854775808 < 9218868437227405312) (fw : w % 9223372036854775808 < 9218868437227405312) : fltO v w = fltZ v w := by
  have e : ordF v w = some (compare (sgnF v) (sgnF w)) := ordF_fin fv fw
  have a := sgnF_lt hv hw nv nw
  have b := sgnF_lt hw hv nw nv
  unfold fltO fltZ
  rw [e]
  rcases Int.lt_trichotomy (sgnF v) (sgnF w) with h | h | h
  · rw [Int.compare_eq_lt.2 h, cmpZ_lt (a.1 h)]; rfl
  · rw [Int.compare_eq_eq.2 h, cmpZ_eq (by omega)]; rfl
  · rw [Int.compare_eq_gt.2 h, cmpZ_gt (b.1 h)]; rfl

end Go.Proofs.YtlllbkjiadcloaaDoor.hb
end

-- Z9
section
/- The order of terms, in plain words. -/
namespace Go.Proofs.YtlllbkjiadcloaaDoor.hb
open Go Go.RowKit Go.Hb

mutual
/-- how two terms stand in the standard order -/
def ordT : Tm → Tm → Int
  | .mk k s u b v l, .mk k' s' u' b' v' l' =>
    if k ≠ k' then cmpZ (rankZ k) (rankZ k')
    else if k = 1 then cmpZ v v'
    else if k = 3 then numZ u u'
    else if k = 4 then fltZ b b'
    else if orZ (cmpZ l.length l'.length) (cmpS s s') = 0 then ordL l l' else orZ (cmpZ l.length l'.length) (cmpS s s')
def ordL : List Tm → List Tm → Int
  | [], _ => 0
  | _ :: _, [] => 0
  | t :: l, t' :: l' => if ordT t t' = 0 then ordL l l' else ordT t t'
end
def headZ (t t' : Tm) : Int := orZ (cmpZ t.args.length t'.args.length) (cmpS t.name t'.name)
theorem ordT_eq (t t' : Tm) : ordT t t' = if t.kind ≠ t'.kind then cmpZ (rankZ t.kind) (rankZ t'.kind)
    else if t.kind = 1 then cmpZ t.var t'.var
    else if t.kind = 3 then numZ t.num t'.num
    else if t.kind = 4 then fltZ t.bits t'.bits
    else if headZ t t' = 0 then ordL t.args t'.args else headZ t t' := by
  obtain ⟨k, s, u, b, v, l⟩ := t
  obtain ⟨k', s', u', b', v', l'⟩ := t'
  rw [ordT]; rfl
theorem ordL_drop {l l' : List Tm} {i : Nat} {t t' : Tm} (h : l[i]? = some t) (h' : l'[i]? = some t') :
    ordL (l.drop i) (l'.drop i) = if ordT t t' = 0 then ordL (l.drop (i + 1)) (l'.drop (i + 1)) else ordT t t' := by
  have hlt := (List.getElem?_eq_some_iff.1 h).1
  have he : l[i] = t := (List.getElem?_eq_some_iff.1 h).2
  have hlt' := (List.getElem?_eq_some_iff.1 h').1
  have he' : l'[i] = t' := (List.getElem?_eq_some_iff.1 h').2
  rw [List.drop_eq_getElem_cons hlt, List.drop_eq_getElem_cons hlt', ordL, he, he']
theorem head_len {t t' : Tm} (h : headZ t t' = 0) : t.args.length = t'.args.length := by
  unfold headZ orZ at h
  have := cmpZ_range (t.args.length : Int) t'.args.length
  by_cases e : cmpZ (t.args.length : Int) t'.args.length = 0
  · unfold cmpZ at e
    split at e
    · omega
    · split at e <;> omega
  · rw [if_neg e] at h; exact absurd h e

end Go.Proofs.YtlllbkjiadcloaaDoor.hb
end

-- Z11
section
/- The order of terms, the plain law: it is one, and terms that stand alike in it are one. -/
namespace Go.Proofs.YtlllbkjiadcloaaDoor.hb
open Go Go.RowKit Go.Hb

/-! ## Signs -/
def TT (x y z : Int) : Prop := (x ≤ 0 → y ≤ 0 → z ≤ 0) ∧ (0 ≤ x → 0 ≤ y → 0 ≤ z) ∧ (x < 0 → y ≤ 0 → z < 0) ∧ (x ≤ 0 → y < 0 → z < 0) ∧ (0 < x → 0 ≤ y → 0 < z) ∧ (0 ≤ x → 0 < y → 0 < z)
theorem TT.or {x1 y1 z1 x2 y2 z2 : Int} (h1 : TT x1 y1 z1) (h2 : x1 = 0 → y1 = 0 → TT x2 y2 z2) : TT (orZ x1 x2) (orZ y1 y2) (orZ z1 z2) := by
  unfold orZ TT at *
  by_cases a : x1 = 0 <;> by_cases b : y1 = 0
  · have c : z1 = 0 := by omega
    simp only [a, b, c, if_true]
    exact h2 a b
  · have c : z1 ≠ 0 := by omega
    simp only [a, b, c, if_true, if_false]
    omega
  · have c : z1 ≠ 0 := by omega
    simp only [a, b, c, if_true, if_false]
    omega
  · by_cases c : z1 = 0
    · simp only [a, b, c, if_true, if_false]; omega
    · simp only [a, b, c, if_false]; omega
theorem TT.neg {x y z : Int} (h : TT x y z) : TT (-x) (-y) (-z) := by unfold TT at *; omega
theorem TT.cmp (a b c : Int) : TT (cmpZ a b) (cmpZ b c) (cmpZ a c) := by
  unfold TT cmpZ
  by_cases h1 : a < b <;> by_cases h2 : b < a <;> by_cases h3 : b < c <;> by_cases h4 : c < b <;> by_cases h5 : a < c <;> by_cases h6 : c < a <;> simp only [h1, h2, h3, h4, h5, h6, if_true, if_false] <;> (refine ⟨?_, ?_, ?_, ?_, ?_, ?_⟩ <;> intros <;> omega)
theorem TT.zero : TT 0 0 0 := by unfold TT; omega
theorem TT.zz {x y z : Int} (h : TT x y z) (hx : x = 0) (hy : y = 0) : z = 0 := by unfold TT at h; omega
theorem cmpZ_anti (a b : Int) : cmpZ b a = -(cmpZ a b) := by
  unfold cmpZ
  by_cases h1 : a < b <;> by_cases h2 : b < a <;> simp only [h1, h2, if_true, if_false] <;> omega
theorem cmpZ_zero {a b : Int} : cmpZ a b = 0 ↔ a = b := by
  unfold cmpZ
  constructor
  · intro h; split at h
    · omega
    · split at h <;> omega
  · rintro rfl; simp
theorem orZ_neg (x y : Int) : orZ (-x) (-y) = -(orZ x y) := by
  unfold orZ
  by_cases h : x = 0
  · subst h; simp
  · rw [if_neg h, if_neg (by omega)]
theorem orZ_zero {x y : Int} : orZ x y = 0 ↔ x = 0 ∧ y = 0 := by
  unfold orZ
  by_cases h : x = 0
  · rw [if_pos h]; simp [h]
  · rw [if_neg h]; simp [h]

/-! ## Texts -/
def cmpB (a b : List UInt8) : Int := if Op.bytesLess a b then -1 else if Op.bytesLess b a then 1 else 0
theorem cmpB_nil : cmpB [] [] = 0 := by simp [cmpB, Op.bytesLess]
theorem cmpB_nc {y : UInt8} {b : List UInt8} : cmpB [] (y :: b) = -1 := by simp [cmpB, Op.bytesLess]
theorem cmpB_cn {y : UInt8} {b : List UInt8} : cmpB (y :: b) [] = 1 := by simp [cmpB, Op.bytesLess]
theorem cmpB_cons {x y : UInt8} {a b : List UInt8} : cmpB (x :: a) (y :: b) = orZ (cmpZ x.toNat y.toNat) (cmpB a b) := by
  unfold cmpB
  simp only [Op.bytesLess]
  rcases Nat.lt_trichotomy x.toNat y.toNat with h | h | h
  · have h1 : x < y := UInt8.lt_iff_toNat_lt.2 h
    have hc : cmpZ (x.toNat : Int) y.toNat = -1 := by unfold cmpZ; rw [if_pos (by omega)]
    rw [hc]
    simp [h1, orZ]
  · obtain rfl : x = y := UInt8.toNat_inj.1 h
    have hc : cmpZ (x.toNat : Int) x.toNat = 0 := cmpZ_zero.2 rfl
    rw [hc]
    simp [orZ]
  · have h1 : y < x := UInt8.lt_iff_toNat_lt.2 h
    have h2 : ¬ x < y := fun q => by have := UInt8.lt_iff_toNat_lt.1 q; omega
    have h3 : x ≠ y := fun q => by rw [q] at h; omega
    have hc : cmpZ (x.toNat : Int) y.toNat = 1 := by unfold cmpZ; rw [if_neg (by omega), if_pos (by omega)]
    rw [hc]
    simp [h1, h2, h3, orZ]
theorem TT.bytes : ∀ (a b c : List UInt8), TT (cmpB a b) (cmpB b c) (cmpB a c)
  | [], [], [] => by rw [cmpB_nil]; exact TT.zero
  | [], [], _ :: _ => by rw [cmpB_nil, cmpB_nc]; unfold TT; omega
  | [], _ :: _, [] => by rw [cmpB_nil, cmpB_nc, cmpB_cn]; unfold TT; omega
  | _ :: _, [], [] => by rw [cmpB_nil, cmpB_cn]; unfold TT; omega
  | _ :: _, [], _ :: _ => by rw [cmpB_nc, cmpB_cn]; unfold TT; omega
  | [], _ :: _, _ :: _ => by rw [cmpB_nc, cmpB_nc]; unfold TT; omega
  | _ :: _, _ :: _, [] => by rw [cmpB_cn, cmpB_cn]; unfold TT; omega
  | x :: a, y :: b, z :: c => by
    rw [cmpB_cons, cmpB_cons, cmpB_cons]
    exact TT.or (TT.cmp _ _ _) fun _ _ => TT.bytes a b c
theorem cmpB_anti : ∀ (a b : List UInt8), cmpB b a = -(cmpB a b)
  | [], [] => by rw [cmpB_nil]; rfl
  | [], _ :: _ => by rw [cmpB_nc, cmpB_cn]; rfl
  | _ :: _, [] => by rw [cmpB_nc, cmpB_cn]
  | x :: a, y :: b => by rw [cmpB_cons, cmpB_cons, cmpZ_anti x.toNat y.toNat, cmpB_anti a b, orZ_neg]
theorem cmpB_zero : ∀ {a b : List UInt8}, cmpB a b = 0 ↔ a = b
  | [], [] => by rw [cmpB_nil]; simp
  | [], _ :: _ => by rw [cmpB_nc]; simp
  | _ :: _, [] => by rw [cmpB_cn]; simp
  | x :: a, y :: b => by
    rw [cmpB_cons, orZ_zero, cmpZ_zero, cmpB_zero (a := a) (b := b), List.cons.injEq]
    constructor
    · rintro ⟨h1, h2⟩; exact ⟨UInt8.toNat_inj.1 (by omega), h2⟩
    · rintro ⟨h1, h2⟩; exact ⟨by rw [h1], h2⟩
theorem toList_inj {a b : ByteArray} (h : a.toList = b.toList) : a = b := by
  rw [toList_data, toList_data] at h
  obtain ⟨⟨a⟩⟩ := a; obtain ⟨⟨b⟩⟩ := b
  simp at h; rw [h]
theorem TT.texts (a b c : ByteArray) : TT (cmpS a b) (cmpS b c) (cmpS a c) := TT.bytes a.toList b.toList c.toList
theorem cmpS_anti (a b : ByteArray) : cmpS b a = -(cmpS a b) := cmpB_anti a.toList b.toList
theorem cmpS_zero {a b : ByteArray} : cmpS a b = 0 ↔ a = b :=
  ⟨fun h => toList_inj (cmpB_zero.1 h), fun h => by subst h; exact cmpB_zero.2 rfl⟩

/-! ## Numbers, floats -/
theorem TT.nums (a b c : ByteArray) : TT (numZ a b) (numZ b c) (numZ a c) := by
  have h := TT.or (TT.cmp (a.size : Int) b.size c.size) fun _ _ => TT.texts a b c
  unfold numZ
  cases negS (bl a) <;> cases negS (bl b) <;> cases negS (bl c) <;> simp only [Bool.and_true, Bool.and_false, Bool.not_true, Bool.not_false, if_true, if_false, Bool.false_eq_true]
  · exact h
  all_goals first | exact h.neg | (unfold TT; omega)
theorem numZ_anti (a b : ByteArray) : numZ b a = -(numZ a b) := by
  have h : orZ (cmpZ (b.size : Int) a.size) (cmpS b a) = -(orZ (cmpZ (a.size : Int) b.size) (cmpS a b)) := by rw [cmpZ_anti (a.size : Int), cmpS_anti a b, orZ_neg]
  unfold numZ
  rw [h]
  cases negS (bl a) <;> cases negS (bl b) <;> simp
theorem numZ_zero {a b : ByteArray} : numZ a b = 0 ↔ a = b := by
  constructor
  · intro h
    have key : orZ (cmpZ (a.size : Int) b.size) (cmpS a b) = 0 := by
      revert h
      unfold numZ
      cases negS (bl a) <;> cases negS (bl b) <;> simp
    exact cmpS_zero.1 (orZ_zero.1 key).2
  · rintro rfl
    unfold numZ
    have h : orZ (cmpZ (a.size : Int) a.size) (cmpS a a) = 0 := orZ_zero.2 ⟨cmpZ_zero.2 rfl, cmpS_zero.2 rfl⟩
    rw [h]
    cases negS (bl a) <;> simp
theorem TT.flts (a b c : Int) : TT (fltZ a b) (fltZ b c) (fltZ a c) := TT.cmp _ _ _
theorem fltZ_anti (a b : Int) : fltZ b a = -(fltZ a b) := cmpZ_anti _ _
theorem fltZ_zero {a b : Int} (ha : u64 a) (hb : u64 b) : fltZ a b = 0 ↔ a = b := by
  unfold fltZ
  rw [cmpZ_zero]
  unfold keyF u64 at *
  constructor
  · intro h; split at h <;> split at h <;> omega
  · rintro rfl; rfl

/-! ## Terms -/
/-- a term that may be -/
def Fine (t : Tm) : Prop := allE nodeS t = 0
theorem allL_mem {E : Tm → Int} : ∀ {l : List Tm}, allL E l = 0 → ∀ u ∈ l, allE E u = 0
  | [], _, u, hu => by simp at hu
  | t :: l, h, u, hu => by
    rw [allL] at h
    split at h
    · rename_i h0
      rcases List.mem_cons.1 hu with rfl | hu
      · exact h0
      · exact allL_mem h u hu
    · rename_i h0; exact absurd h h0
theorem Fine.node {t : Tm} (h : Fine t) : nodeS t = 0 := by
  unfold Fine at h
  rw [allE_eq] at h
  split at h
  · assumption
  · rename_i h0; exact absurd h h0
theorem Fine.args {t : Tm} (h : Fine t) : ∀ u ∈ t.args, Fine u := by
  have h1 := h.node
  unfold Fine at h
  rw [allE_eq, if_pos h1] at h
  exact allL_mem h
theorem node_kind {t : Tm} (h : nodeS t = 0) : 1 ≤ t.kind ∧ t.kind ≤ 5 ∧ blankB t = true ∧ 0 ≤ t.var ∧ (t.kind = 5 → 1 ≤ t.args.length ∧ t.args.length ≤ 64) ∧ (t.kind = 3 → canonS t.num = true) ∧ (t.kind = 4 → fltS t.bits = true) ∧ utfS t.name = true ∧ t.name.size ≤ 1000 := by
  unfold nodeS nodeE at h
  split at h
  · omega
  split at h
  · omega
  split at h
  · omega
  split at h
  · omega
  split at h
  · omega
  split at h
  · omega
  split at h
  · omega
  split at h
  · omega
  rename_i h1 h2 h3 h4 h5 h6 h7 h8
  refine ⟨by omega, by omega, by simpa using h2, by omega, fun h => ?_, fun h => ?_, fun h => ?_, by simpa using h5, by omega⟩
  · have := fun q => h4 ⟨h, q⟩; omega
  · cases hh : canonS t.num with
    | true => rfl
    | false => exact absurd ⟨h, hh⟩ h7
  · cases hh : fltS t.bits with
    | true => rfl
    | false => exact absurd ⟨h, hh⟩ h8
theorem isE_eq {s : ByteArray} (h : isE s = true) : s = ByteArray.empty := by
  unfold isE at h
  have h1 : s.toList = [] := by simpa using h
  apply toList_inj
  rw [h1]
  exact toList_empty.symm
theorem isE_size {s : ByteArray} (h : isE s = true) : s.size = 0 := by rw [isE_eq h]; rfl

theorem rankZ_inj {k k' : Int} (h1 : 1 ≤ k) (h2 : k ≤ 5) (h3 : 1 ≤ k') (h4 : k' ≤ 5) (h : rankZ k = rankZ k') : k = k' := by
  unfold rankZ at h
  repeat' split at h
  all_goals omega
def restZ (t t' : Tm) : Int := if t.kind = 1 then cmpZ t.var t'.var else if t.kind = 3 then numZ t.num t'.num else if t.kind = 4 then fltZ t.bits t'.bits else orZ (headZ t t') (ordL t.args t'.args)
theorem ordT_or {t t' : Tm} (h1 : 1 ≤ t.kind ∧ t.kind ≤ 5) (h2 : 1 ≤ t'.kind ∧ t'.kind ≤ 5) : ordT t t' = orZ (cmpZ (rankZ t.kind) (rankZ t'.kind)) (restZ t t') := by
  rw [ordT_eq]
  by_cases hk : t.kind = t'.kind
  · rw [if_neg (fun h => h hk)]
    have : cmpZ (rankZ t.kind) (rankZ t'.kind) = 0 := by rw [hk]; exact cmpZ_zero.2 rfl
    rw [this, orZ, if_pos rfl]
    unfold restZ orZ; rfl
  · rw [if_pos hk]
    have : cmpZ (rankZ t.kind) (rankZ t'.kind) ≠ 0 := fun h => hk (rankZ_inj h1.1 h1.2 h2.1 h2.2 (cmpZ_zero.1 h))
    rw [orZ, if_neg this]
theorem ordL_cons (t t' : Tm) (l l' : List Tm) : ordL (t :: l) (t' :: l') = orZ (ordT t t') (ordL l l') := by rw [ordL]; rfl

theorem TT.lists : ∀ (l1 l2 l3 : List Tm), l1.length = l2.length → l2.length = l3.length → (∀ t ∈ l1, ∀ t2 ∈ l2, ∀ t3 ∈ l3, TT (ordT t t2) (ordT t2 t3) (ordT t t3)) → TT (ordL l1 l2) (ordL l2 l3) (ordL l1 l3)
  | [], [], [], _, _, _ => by simp only [ordL]; exact TT.zero
  | [], _ :: _, _, h, _, _ => by simp at h
  | _ :: _, [], _, h, _, _ => by simp at h
  | _, [], _ :: _, _, h, _ => by simp at h
  | _, _ :: _, [], _, h, _ => by simp at h
  | t1 :: l1, t2 :: l2, t3 :: l3, h, h', ih => by
    rw [ordL_cons, ordL_cons, ordL_cons]
    exact TT.or (ih t1 (by simp) t2 (by simp) t3 (by simp)) fun _ _ => TT.lists l1 l2 l3 (by simpa using h) (by simpa using h') fun a ha b hb c hc => ih a (List.mem_cons_of_mem _ ha) b (List.mem_cons_of_mem _ hb) c (List.mem_cons_of_mem _ hc)
theorem mem_args_size {t u : Tm} (h : u ∈ t.args) : SizeOf.sizeOf u < SizeOf.sizeOf t := by
  obtain ⟨k, s, w, b, v, l⟩ := t
  exact mem_size h
theorem TT.terms : ∀ (m : Nat) (t1 t2 t3 : Tm), SizeOf.sizeOf t1 < m → Fine t1 → Fine t2 → Fine t3 → TT (ordT t1 t2) (ordT t2 t3) (ordT t1 t3)
  | 0, _, _, _, h, _, _, _ => by omega
  | m + 1, t1, t2, t3, hm, f1, f2, f3 => by
    have k1 := node_kind f1.node; have k2 := node_kind f2.node; have k3 := node_kind f3.node
    rw [ordT_or ⟨k1.1, k1.2.1⟩ ⟨k2.1, k2.2.1⟩, ordT_or ⟨k2.1, k2.2.1⟩ ⟨k3.1, k3.2.1⟩, ordT_or ⟨k1.1, k1.2.1⟩ ⟨k3.1, k3.2.1⟩]
    refine TT.or (TT.cmp _ _ _) fun e1 e2 => ?_
    have q1 : t1.kind = t2.kind := rankZ_inj k1.1 k1.2.1 k2.1 k2.2.1 (cmpZ_zero.1 e1)
    have q2 : t2.kind = t3.kind := rankZ_inj k2.1 k2.2.1 k3.1 k3.2.1 (cmpZ_zero.1 e2)
    unfold restZ
    rw [← q1]
    split
    · exact TT.cmp _ _ _
    split
    · exact TT.nums _ _ _
    split
    · exact TT.flts _ _ _
    refine TT.or (TT.or (TT.cmp _ _ _) fun _ _ => TT.texts _ _ _) fun e1 e2 => ?_
    refine TT.lists _ _ _ (head_len e1) (head_len e2) fun a ha b hb c hc => ?_
    exact TT.terms m a b c (by have := mem_args_size ha; omega) (f1.args a ha) (f2.args b hb) (f3.args c hc)
mutual
theorem ordT_anti : ∀ (t t' : Tm), ordT t' t = -(ordT t t')
  | .mk k s u b v l, .mk k' s' u' b' v' l' => by
    rw [ordT, ordT]
    by_cases hk : k = k'
    · subst hk
      simp only [ne_eq, not_true_eq_false, if_false]
      split
      · exact cmpZ_anti _ _
      split
      · exact numZ_anti _ _
      split
      · exact fltZ_anti _ _
      have h : orZ (cmpZ (l'.length : Int) l.length) (cmpS s' s) = -(orZ (cmpZ (l.length : Int) l'.length) (cmpS s s')) := by rw [cmpZ_anti (l.length : Int), cmpS_anti s s', orZ_neg]
      rw [h, ordL_anti l l']
      by_cases h0 : orZ (cmpZ (l.length : Int) l'.length) (cmpS s s') = 0
      · rw [if_pos (by omega), if_pos h0]
      · rw [if_neg (by omega), if_neg h0]
    · rw [if_pos (fun h => hk h.symm), if_pos hk]
      exact cmpZ_anti _ _
theorem ordL_anti : ∀ (l l' : List Tm), ordL l' l = -(ordL l l')
  | [], [] => by simp [ordL]
  | [], _ :: _ => by simp [ordL]
  | _ :: _, [] => by simp [ordL]
  | t :: l, t' :: l' => by
    rw [ordL, ordL, ordT_anti t t', ordL_anti l l']
    by_cases h0 : ordT t t' = 0
    · rw [if_pos (by omega), if_pos h0]
    · rw [if_neg (by omega), if_neg h0]
end
theorem ordL_zero : ∀ {l l' : List Tm}, l.length = l'.length → (∀ t ∈ l, ∀ t' ∈ l', (ordT t t' = 0 → t = t')) → ordL l l' = 0 → l = l'
  | [], [], _, _, _ => rfl
  | [], _ :: _, h, _, _ => by simp at h
  | _ :: _, [], h, _, _ => by simp at h
  | t :: l, t' :: l', h, ih, h0 => by
    rw [ordL_cons, orZ_zero] at h0
    rw [ih t (by simp) t' (by simp) h0.1, ordL_zero (by simpa using h) (fun a ha b hb => ih a (List.mem_cons_of_mem _ ha) b (List.mem_cons_of_mem _ hb)) h0.2]
mutual
theorem ordT_self : ∀ (t : Tm), ordT t t = 0
  | .mk k s u b v l => by
    rw [ordT, if_neg (fun h => h rfl)]
    split
    · exact cmpZ_zero.2 rfl
    split
    · exact numZ_zero.2 rfl
    split
    · exact cmpZ_zero.2 rfl
    rw [if_pos (orZ_zero.2 ⟨cmpZ_zero.2 rfl, cmpS_zero.2 rfl⟩)]
    exact ordL_self l
theorem ordL_self : ∀ (l : List Tm), ordL l l = 0
  | [] => by rw [ordL]
  | t :: l => by rw [ordL, if_pos (ordT_self t)]; exact ordL_self l
end
theorem blank_fields {t : Tm} (h : blankB t = true) : (t.kind ≠ 2 → t.kind ≠ 5 → t.name = ByteArray.empty) ∧ (t.kind ≠ 3 → t.num = ByteArray.empty) ∧ (t.kind ≠ 4 → t.bits = 0) ∧ (t.kind ≠ 1 → t.var = 0) ∧ (t.kind ≠ 5 → t.args = []) := by
  unfold blankB at h
  simp only [Bool.and_eq_true, Bool.or_eq_true, beq_iff_eq] at h
  obtain ⟨⟨⟨⟨h1, h2⟩, h3⟩, h4⟩, h5⟩ := h
  refine ⟨fun a b => ?_, fun a => ?_, fun a => ?_, fun a => ?_, fun a => ?_⟩
  · rcases h1 with (h | h) | h
    · exact absurd h a
    · exact absurd h b
    · exact isE_eq h
  · rcases h2 with h | h
    · exact absurd h a
    · exact isE_eq h
  · rcases h3 with h | h
    · exact absurd h a
    · exact h
  · rcases h4 with h | h
    · exact absurd h a
    · exact h
  · rcases h5 with h | h
    · exact absurd h a
    · exact List.length_eq_zero_iff.1 (by omega)
theorem tm_ext {t t' : Tm} (h1 : t.kind = t'.kind) (h2 : t.name = t'.name) (h3 : t.num = t'.num) (h4 : t.bits = t'.bits) (h5 : t.var = t'.var) (h6 : t.args = t'.args) : t = t' := by
  obtain ⟨k, s, u, b, v, l⟩ := t
  obtain ⟨k', s', u', b', v', l'⟩ := t'
  simp only [Tm.kind, Tm.name, Tm.num, Tm.bits, Tm.var, Tm.args] at *
  subst h1 h2 h3 h4 h5 h6; rfl
/-- a term's bits are a word's, all through -/
inductive U64s : Tm → Prop
  | mk {t : Tm} : u64 t.bits → (∀ u ∈ t.args, U64s u) → U64s t
theorem U64s.bits {t : Tm} (h : U64s t) : u64 t.bits := by cases h; assumption
theorem U64s.args {t : Tm} (h : U64s t) : ∀ u ∈ t.args, U64s u := by cases h; assumption
theorem RepT.u64s {H : Heap} : ∀ {t : Tm} {cs : List Value}, RepT H t cs → U64s t := by
  intro t cs r
  induction r with
  | mk k s u b v l a c cells h1 h2 h3 h4 h5 h6 h7 h8 h9 h10 h11 ih =>
    refine .mk h4 fun w hw => ?_
    obtain ⟨i, hi, e⟩ := List.getElem_of_mem (show w ∈ l from hw)
    exact ih i w (by rw [List.getElem?_eq_getElem hi, e])
theorem ordT_zero : ∀ (m : Nat) {t t' : Tm}, SizeOf.sizeOf t < m → Fine t → Fine t' → U64s t → U64s t' → ordT t t' = 0 → t = t'
  | 0, _, _, h, _, _, _, _, _ => by omega
  | m + 1, t, t', hm, f, f', b, b', h => by
    have k1 := node_kind f.node; have k2 := node_kind f'.node
    rw [ordT_or ⟨k1.1, k1.2.1⟩ ⟨k2.1, k2.2.1⟩, orZ_zero] at h
    have q : t.kind = t'.kind := rankZ_inj k1.1 k1.2.1 k2.1 k2.2.1 (cmpZ_zero.1 h.1)
    have l1 := blank_fields k1.2.2.1; have l2 := blank_fields k2.2.2.1
    have h := h.2
    unfold restZ at h
    split at h
    · rename_i hk
      have hk' : t'.kind = 1 := by omega
      exact tm_ext q (by rw [l1.1 (by omega) (by omega), l2.1 (by omega) (by omega)]) (by rw [l1.2.1 (by omega), l2.2.1 (by omega)]) (by rw [l1.2.2.1 (by omega), l2.2.2.1 (by omega)]) (cmpZ_zero.1 h) (by rw [l1.2.2.2.2 (by omega), l2.2.2.2.2 (by omega)])
    split at h
    · rename_i hk
      have hk' : t'.kind = 3 := by omega
      exact tm_ext q (by rw [l1.1 (by omega) (by omega), l2.1 (by omega) (by omega)]) (numZ_zero.1 h) (by rw [l1.2.2.1 (by omega), l2.2.2.1 (by omega)]) (by rw [l1.2.2.2.1 (by omega), l2.2.2.2.1 (by omega)]) (by rw [l1.2.2.2.2 (by omega), l2.2.2.2.2 (by omega)])
    split at h
    · rename_i hk
      have hk' : t'.kind = 4 := by omega
      exact tm_ext q (by rw [l1.1 (by omega) (by omega), l2.1 (by omega) (by omega)]) (by rw [l1.2.1 (by omega), l2.2.1 (by omega)]) ((fltZ_zero b.bits b'.bits).1 h) (by rw [l1.2.2.2.1 (by omega), l2.2.2.2.1 (by omega)]) (by rw [l1.2.2.2.2 (by omega), l2.2.2.2.2 (by omega)])
    · rename_i n1 n3 n4
      rw [orZ_zero] at h
      have hn : t.name = t'.name := cmpS_zero.1 (orZ_zero.1 h.1).2
      refine tm_ext q hn (by rw [l1.2.1 (by omega), l2.2.1 (by omega)]) (by rw [l1.2.2.1 (by omega), l2.2.2.1 (by omega)]) (by rw [l1.2.2.2.1 (by omega), l2.2.2.2.1 (by omega)]) ?_
      exact ordL_zero (head_len h.1) (fun a ha c hc h0 => ordT_zero m (by have := mem_args_size ha; omega) (f.args a ha) (f'.args c hc) (b.args a ha) (b'.args c hc) h0) h.2
theorem numZ_range (a b : ByteArray) : -1 ≤ numZ a b ∧ numZ a b ≤ 1 := by
  have := orZ_range (cmpZ_range a.size b.size) (cmpS_range a b)
  unfold numZ
  split
  · omega
  split
  · omega
  split <;> omega
mutual
theorem ordT_range : ∀ (t t' : Tm), -1 ≤ ordT t t' ∧ ordT t t' ≤ 1
  | .mk k s u b v l, .mk k' s' u' b' v' l' => by
    rw [ordT]
    split
    · exact cmpZ_range _ _
    split
    · exact cmpZ_range _ _
    split
    · exact numZ_range _ _
    split
    · exact cmpZ_range _ _
    split
    · exact ordL_range l l'
    · exact orZ_range (cmpZ_range _ _) (cmpS_range _ _)
theorem ordL_range : ∀ (l l' : List Tm), -1 ≤ ordL l l' ∧ ordL l l' ≤ 1
  | [], _ => by rw [ordL]; omega
  | _ :: _, [] => by rw [ordL]; omega
  | t :: l, t' :: l' => by
    rw [ordL]
    split
    · exact ordL_range l l'
    · exact ordT_range t t'
end
theorem canon_pos {s : ByteArray} (h : canonS s = true) : 1 ≤ s.size := by
  by_cases h0 : s.size = 0
  · exfalso
    have : s.data.toList = [] := List.length_eq_zero_iff.1 (by simpa using h0)
    unfold canonS at h
    rw [show bl s = [] by unfold bl; rw [this]; rfl] at h
    exact absurd h (by decide)
  · omega
theorem check_zero {t : Tm} : checkS t = 0 ↔ cnt t 0 ≤ 4000 ∧ Fine t := by
  unfold checkS checkE Fine
  by_cases h : 4000 < cnt t 0
  · rw [if_pos h]; constructor
    · intro h; omega
    · intro h; omega
  · rw [if_neg h]; constructor
    · intro h'; exact ⟨by omega, h'⟩
    · intro h'; exact h'.2
end Go.Proofs.YtlllbkjiadcloaaDoor.hb
end

-- Vq
section
/- Values that are the same, by simp. -/
namespace Go.Hb
open Go Go.RowKit
theorem vq_int {k : IntKind} {n : Int} : veq (.int k n) (.int k n) = true := by simp [veq]
theorem vq_str {s : ByteArray} : veq (.string s) (.string s) = true := by simp [veq]
theorem vq_bool {b : Bool} : veq (.bool b) (.bool b) = true := by simp [veq]
theorem vq_float {k : FloatKind} {n : Nat} : veq (.float k n) (.float k n) = true := by simp [veq]
theorem vq_ptr {a : Option Addr} : veq (.pointer a) (.pointer a) = true := by simp [veq]
theorem vq_map {a : Option Nat} : veq (.map a) (.map a) = true := by simp [veq]
theorem vq_slice {a : Option Addr} {n c : Nat} : veq (.slice a n c) (.slice a n c) = true := by simp [veq]
theorem vq_agg {a b : List Value} : veq (.agg ⟨a⟩) (.agg ⟨b⟩) = veqL a b := by simp [veq]
theorem vq_tuple {a b : List Value} : veq (.tuple ⟨a⟩) (.tuple ⟨b⟩) = veqL a b := by simp [veq]
theorem vq_cons {x y : Value} {a b : List Value} : veqL (x :: a) (y :: b) = (veq x y && veqL a b) := by simp [veqL]
theorem vq_nil : veqL [] [] = true := by simp [veqL]
end Go.Hb
end

-- Z10a
section
/- Heaps by what is known of them; a term's cells. -/
namespace Go.Hb
open Go Go.RowKit

/-- the cells of a term whose arguments lie at 'a' -/
abbrev six (t : Tm) (a : Option Addr) (c : Nat) : List Value := [.int .i64 t.kind, .string t.name, .string t.num, .int .u64 t.bits, .int .i64 t.var, .slice a t.args.length c]
theorem row6 {H : Heap} {p : Nat} {T : TypeId} {x0 x1 x2 x3 x4 x5 : Value} (h : H.get p = some (Blk.row [x0, x1, x2, x3, x4, x5] T)) :
    H.load ⟨p, 0, none⟩ 1 = some [x0] ∧ H.load ⟨p, 1, none⟩ 1 = some [x1] ∧ H.load ⟨p, 2, none⟩ 1 = some [x2] ∧ H.load ⟨p, 3, none⟩ 1 = some [x3] ∧ H.load ⟨p, 4, none⟩ 1 = some [x4] ∧ H.load ⟨p, 5, none⟩ 1 = some [x5] ∧
    H.load ⟨p, 0, none⟩ 6 = some [x0, x1, x2, x3, x4, x5] := by
  refine ⟨?_, ?_, ?_, ?_, ?_, ?_, ?_⟩ <;> simp only [Heap.load, Heap.cells, h] <;> rfl
theorem row2 {H : Heap} {p : Nat} {T : TypeId} {x0 x1 : Value} (h : H.get p = some (Blk.row [x0, x1] T)) : H.load ⟨p, 0, none⟩ 1 = some [x0] ∧ H.load ⟨p, 1, none⟩ 1 = some [x1] := by
  refine ⟨?_, ?_⟩ <;> simp only [Heap.load, Heap.cells, h] <;> rfl
theorem new1 {H : Heap} (hw : H.wf) (A : Blk) : ∃ H2, H.new (some A) = H2 ∧ HX H H2 ∧ H2.get H.next = some A ∧ H2.next = H.next + 1 ∧ H2.wf := by
  have hx := (HX.refl hw).new (some A)
  exact ⟨_, rfl, hx, gt_new_eq, rfl, hx.wf⟩
theorem new2 {H : Heap} (hw : H.wf) (A B : Blk) : ∃ H2, (H.new (some A)).new (some B) = H2 ∧ HX H H2 ∧ H2.get H.next = some A ∧ H2.get (H.next + 1) = some B ∧ H2.next = H.next + 2 ∧ H2.wf := by
  have hx := ((HX.refl hw).new (some A)).new (some B)
  refine ⟨_, rfl, hx, ?_, ?_, rfl, hx.wf⟩
  · rw [get_new, if_neg (by show H.next ≠ H.next + 1; omega), get_new, if_pos rfl]
  · rw [get_new]; exact if_pos rfl
/-- numbers are left out, one block is made -/
theorem bump1 {H : Heap} (hw : H.wf) (n i : Nat) (hi : i < n) (A : Blk) : ∃ H2, Heap.put ⟨H.next + n, H.t⟩ (H.next + i) (some A) = H2 ∧ HX H H2 ∧ H2.get (H.next + i) = some A ∧ H2.wf := by
  have hx := ((HX.refl hw).bump n).put (i := H.next + i) (Nat.le_add_right _ _) (show H.next + i < H.next + n by omega) (some A)
  exact ⟨_, rfl, hx, by rw [get_put, if_pos rfl], hx.wf⟩
theorem bump0 {H : Heap} (hw : H.wf) (n : Nat) : ∃ H2, (⟨H.next + n, H.t⟩ : Heap) = H2 ∧ HX H H2 ∧ H2.wf := ⟨_, rfl, (HX.refl hw).bump n, ((HX.refl hw).bump n).wf⟩
theorem HX.get {H H' : Heap} (h : HX H H') (hw : H.wf) {p : Nat} {B : Blk} (hp : H.get p = some B) : H'.get p = some B := by
  rw [h.keep p (hw p B hp)]; exact hp
theorem HX.lt {H H' : Heap} (h : HX H H') (hw : H.wf) {p : Nat} {B : Blk} (hp : H.get p = some B) : p < H'.next := Nat.lt_of_lt_of_le (hw p B hp) h.next
theorem RepT.six {H : Heap} {t : Tm} {cs : List Value} (r : RepT H t cs) : ∃ a c cells, cs = six t a c ∧ i64 t.kind ∧ t.name.size ≤ maxLen ∧ t.num.size ≤ maxLen ∧ u64 t.bits ∧ i64 t.var ∧ RepL H t.args a c cells := r.inv
theorem RepL.max {H : Heap} {l : List Tm} {a : Option Addr} {c : Nat} {cells : Nat → List Value} (r : RepL H l a c cells) : l.length ≤ 9223372036854775807 := Nat.le_trans r.len r.cap
/-- an element of a list, its six cells -/
theorem RepL.el {H : Heap} {l : List Tm} {a : Option Addr} {c : Nat} {cells : Nat → List Value} (r : RepL H l a c cells) {i : Nat} (h : i < l.length) :
    ∃ b o a' c', a = some ⟨b, o, none⟩ ∧ H.load ⟨b, o + i * 6, none⟩ 6 = some (Hb.six l[i] a' c') ∧ RepT H l[i] (Hb.six l[i] a' c') := by
  obtain ⟨b, o, rfl, hl, hr⟩ := r.at (List.getElem?_eq_getElem h)
  obtain ⟨a', c', cells', hc, -⟩ := hr.six
  rw [hc] at hl hr
  exact ⟨b, o, a', c', rfl, hl, hr⟩
theorem decl {i n : Nat} (h : i < n) : decide ((i : Int) < (n : Int)) = true := decide_eq_true (by omega)
theorem decn {i n : Nat} (h : ¬ i < n) : decide ((i : Int) < (n : Int)) = false := decide_eq_false (by omega)
end Go.Hb
end

-- Z10
section
/- The order of terms: the program's. -/
namespace Go.Proofs.YtlllbkjiadcloaaDoor.hb
open Go Go.RowKit Go.Hb
variable {ok : Ok}
set_option maxRecDepth 10000
attribute [local irreducible] LX LG EL STG SOP SGO SGD SAL SRD SEF SEG SLK SCK ES
-- @veq

theorem flt_fin {n : Int} (hn : u64 n) (h : fltS n = true) : n.toNat % 9223372036854775808 < 9218868437227405312 ∧ n.toNat ≠ 9223372036854775808 ∧ (FloatKind.f64.format.order n.toNat n.toNat != some .eq) = false ∧ n.toNat < 18446744073709551616 ∧ ((n.toNat : Nat) : Int) = n := by
  have hm : n.toNat < 18446744073709551616 := by unfold u64 at hn; omega
  have hc : ((n.toNat : Nat) : Int) = n := by unfold u64 at hn; omega
  unfold fltS at h
  simp only [Bool.not_eq_true', Bool.or_eq_false_iff, beq_eq_false_iff_ne] at h
  obtain ⟨⟨h1, h2⟩, h3⟩ := h
  have h1' := h1
  unfold fnB at h1
  rw [fnB_eq] at h1
  unfold fiB at h2
  rw [absN_eq _ hm, fiB_eq _ (Nat.mod_lt _ (by omega))] at h2
  have a := of_decide_eq_false h1
  have b := of_decide_eq_false h2
  exact ⟨by omega, by omega, h1', hm, hc⟩

-- term.order
set_option maxHeartbeats 4000000 in
theorem order_ev {m : Nat} : ∀ {t t' : Tm} {cs cs' : List Value} {H : Heap}, SizeOf.sizeOf t < m → RepT H t cs → RepT H t' cs' → Fine t → Fine t' → H.wf →
    EvF Tryd.prog okT 53 [.agg ⟨cs⟩, .agg ⟨cs'⟩] H fun v H' => v = .int .i64 (ordT t t') ∧ HX H H' := by
  induction m with
  | zero => intro t t' cs cs' H h; omega
  | succ m ih =>
  intro t t' cs cs' H hsz r r' hn hn' hw
  obtain ⟨a, c, cells, rfl, b1, b2, b3, b4, b5, rl⟩ := r.six
  obtain ⟨a', c', cells', rfl, b1', b2', b3', b4', b5', rl'⟩ := r'.six
  refine EvF.enter rfl Tryd.func53 (by decide) rfl ?_
  (repeat refine EvC.seq ?_); refine EvC.reg ?_; simp (config := { maxSteps := 2000000 }) (disch := first | omega | rfl) only [initTm, EL_cons, EL_nil, LX_val, dop_box, dBox, dop_assign, ev_const, ev_tmp, Tr.get_put, put_some, Nat.reduceEqDiff, Option.getD_some, Nat.zero_add, Value.cells, List.all_cons, List.all_nil, one, Bool.and_self, reduceCtorEq, if_true, if_false, next_new, thenC_normal]
  obtain ⟨H2, e2, hx2, gp, gq, hnx, hw2⟩ := new2 hw (.row (six t a c) 26) (.row (six t' a' c') 26)
  simp only [e2]
  have q1 := row6 gp
  have q2 := row6 gq
  have rl2 := rl.mono hx2 hw
  have rl2' := rl'.mono hx2 hw
  clear e2
  by_cases hk : t.kind = t'.kind
  · by_cases k1 : t.kind = 1
    · repeat' (first | refine EvC.seq ?_ | refine EvC.scope ?_ | refine EvC.block ?_ | (refine EvC.skip ?_; try simp only [thenC_normal]) | (refine EvC.exit ?_) | (refine EvC.ret ?_; try simp only [thenC_ret, inBlock_ret]) | (refine EvC.reg ?_; simp (config := { maxSteps := 2000000 }) (disch := first | omega | rfl) only [EL_cons, EL_nil, LX_val, LX_call, dop_assign, dop_load, dop_fieldAddr, dop_bin, ev_const, ev_tmp, Tr.get_put, put_some, Nat.reduceEqDiff, Option.getD_some, Nat.add_zero, Nat.zero_add, reduceCtorEq, if_true, if_false, dload1_some, List.map_cons, List.map_nil, thenC_normal, dBin_eql, dBin_neq, fa26_0, ld3, cl83, fa26_4, ine_f hk, q1, q2, ieq_t k1]) | (refine EvC.condT ?_ ?_; simp (config := { maxSteps := 2000000 }) (disch := first | omega | rfl) only [ev_tmp, Tr.get_put, Nat.reduceEqDiff, Option.getD_some, reduceCtorEq, if_true, if_false]; refine EvC_go ?_) | (refine EvC.condF ?_ ?_; simp (config := { maxSteps := 2000000 }) (disch := first | omega | rfl) only [ev_tmp, Tr.get_put, Nat.reduceEqDiff, Option.getD_some, reduceCtorEq, if_true, if_false]; refine EvC_go ?_))
      refine cmpI_ev.mono ?_
      rintro v H1 ⟨rfl, rfl⟩
      repeat' (first | refine EvC.seq ?_ | refine EvC.scope ?_ | refine EvC.block ?_ | (refine EvC.skip ?_) | (refine EvC.exit ?_) | (refine EvC.ret ?_; try simp only [thenC_ret, inBlock_ret]))
      exact leave_one rfl (by first | (simp only [Tr.get_put, Nat.reduceEqDiff, reduceCtorEq, if_true, if_false, Option.some.injEq]; rfl) | simp only []) ⟨by rw [ordT_eq, if_neg (fun h => h hk), if_pos k1], hx2⟩
    by_cases k3 : t.kind = 3
    · repeat' (first | refine EvC.seq ?_ | refine EvC.scope ?_ | refine EvC.block ?_ | (refine EvC.skip ?_; try simp only [thenC_normal]) | (refine EvC.exit ?_) | (refine EvC.ret ?_; try simp only [thenC_ret, inBlock_ret]) | (refine EvC.reg ?_; simp (config := { maxSteps := 2000000 }) (disch := first | omega | rfl) only [EL_cons, EL_nil, LX_val, LX_call, dop_assign, dop_load, dop_fieldAddr, dop_bin, ev_const, ev_tmp, Tr.get_put, put_some, Nat.reduceEqDiff, Option.getD_some, Nat.add_zero, Nat.zero_add, reduceCtorEq, if_true, if_false, dload1_some, List.map_cons, List.map_nil, thenC_normal, dBin_eql, dBin_neq, fa26_0, ld3, fa26_2, ld9, cl87, ine_f hk, q1, q2, ieq_f k1, ieq_t k3]) | (refine EvC.condT ?_ ?_; simp (config := { maxSteps := 2000000 }) (disch := first | omega | rfl) only [ev_tmp, Tr.get_put, Nat.reduceEqDiff, Option.getD_some, reduceCtorEq, if_true, if_false]; refine EvC_go ?_) | (refine EvC.condF ?_ ?_; simp (config := { maxSteps := 2000000 }) (disch := first | omega | rfl) only [ev_tmp, Tr.get_put, Nat.reduceEqDiff, Option.getD_some, reduceCtorEq, if_true, if_false]; refine EvC_go ?_))
      refine (numbers_ev b3 b3' hx2.wf).mono ?_
      rintro v H1 ⟨rfl, hx3⟩
      repeat' (first | refine EvC.seq ?_ | refine EvC.scope ?_ | refine EvC.block ?_ | (refine EvC.skip ?_) | (refine EvC.exit ?_) | (refine EvC.ret ?_; try simp only [thenC_ret, inBlock_ret]))
      exact leave_one rfl (by first | (simp only [Tr.get_put, Nat.reduceEqDiff, reduceCtorEq, if_true, if_false, Option.some.injEq]; rfl) | simp only []) ⟨by rw [ordT_eq, if_neg (fun h => h hk), if_neg k1, if_pos k3], hx2.trans hx3⟩
    by_cases k4 : t.kind = 4
    · repeat' (first | refine EvC.seq ?_ | refine EvC.scope ?_ | refine EvC.block ?_ | (refine EvC.skip ?_; try simp only [thenC_normal]) | (refine EvC.exit ?_) | (refine EvC.ret ?_; try simp only [thenC_ret, inBlock_ret]) | (refine EvC.reg ?_; simp (config := { maxSteps := 2000000 }) (disch := first | omega | rfl) only [EL_cons, EL_nil, LX_val, dop_assign, dop_load, dop_fieldAddr, dop_bin, ev_const, ev_tmp, Tr.get_put, put_some, Nat.reduceEqDiff, Option.getD_some, Nat.add_zero, reduceCtorEq, if_true, if_false, dload1_some, thenC_normal, dBin_eql, dBin_neq, fa26_0, ld3, ine_f hk, q1, q2, ieq_f k1, ieq_f k3, ieq_t k4]) | (refine EvC.drw (id := 9) [([(0, 0), (1, 0)], some 2), ([(3, 0), (4, 0)], some 5), ([], some 6), ([(7, 3)], none)] ?_ ?_; kernel_rfl; simp (config := { maxSteps := 2000000 }) (disch := first | omega | rfl) only [dop_load, dop_fieldAddr, ev_tmp, Tr.get_put, put_some, Nat.reduceEqDiff, Option.getD_some, Nat.reduceAdd, Nat.zero_add, reduceCtorEq, if_true, if_false, dload1_some, List.take_zero, List.length_cons, List.length_nil, and_self, true_and, thenC_normal, List.getElem?_cons_succ, List.getElem?_cons_zero, fa26_3, ld23, q1, ES_some, STG_op, STG_eff, SOP_none, SGO_read, SRD_val, SEF_none, isAlloc, isRead, or_true, true_and, sameOn_nil, Nat.sub_self, reduceCtorEq, load_bump, List.size_toArray, and_self]) | (refine EvC.condT ?_ ?_; simp (config := { maxSteps := 2000000 }) (disch := first | omega | rfl) only [ev_tmp, Tr.get_put, Nat.reduceEqDiff, Option.getD_some, reduceCtorEq, if_true, if_false]; refine EvC_go ?_) | (refine EvC.condF ?_ ?_; simp (config := { maxSteps := 2000000 }) (disch := first | omega | rfl) only [ev_tmp, Tr.get_put, Nat.reduceEqDiff, Option.getD_some, reduceCtorEq, if_true, if_false]; refine EvC_go ?_))
      rw [dop_frombits (n := t.bits) (by simp only [Tr.get_put, Nat.reduceEqDiff, reduceCtorEq, if_true, if_false])]
      repeat' (first | refine EvC.seq ?_ | refine EvC.scope ?_ | refine EvC.block ?_ | (refine EvC.skip ?_) | (refine EvC.exit ?_) | (refine EvC.ret ?_; try simp only [thenC_ret, inBlock_ret]) | (refine SLK_go ?_; simp (config := { maxSteps := 2000000 }) (disch := first | omega | rfl) only [dop_load, dop_fieldAddr, ev_tmp, Tr.get_put, put_some, Nat.reduceEqDiff, Option.getD_some, Nat.zero_add, Bool.and_self, reduceCtorEq, if_true, if_false, dload1_some, List.take_succ_cons, List.take_zero, List.length_cons, List.length_nil, Nat.beq_refl, and_self, true_and, List.getElem?_cons_succ, List.getElem?_cons_zero, fa26_3, ld23, q2, ES_some, STG_op, STG_eff, SOP_none, SGO_read, SRD_val, SEF_none, SLK_val, isAlloc, isRead, or_true, true_and, sameOn_nil, Nat.sub_zero, reduceCtorEq, load_bump, sameOn_cons, sameK_val, and_self, Bool.and_self, vq_int, vq_ptr]))
      rw [dop_frombits (n := t'.bits) (by simp only [Tr.get_put, Nat.reduceEqDiff, reduceCtorEq, if_true, if_false])]
      repeat' (first | refine EvC.seq ?_ | refine EvC.scope ?_ | refine EvC.block ?_ | (refine EvC.skip ?_) | (refine EvC.exit ?_) | (refine EvC.ret ?_; try simp only [thenC_ret, inBlock_ret]) | (refine SLK_go ?_; simp (config := { maxSteps := 2000000 }) (disch := first | omega | rfl) only [ev_tmp, Tr.get_put, put_some, Nat.reduceEqDiff, Option.getD_some, reduceCtorEq, if_true, if_false, List.map_cons, List.map_nil, List.getElem?_cons_succ, List.getElem?_cons_zero, cl88, ES_some, STG_eff, SEF_none, SLK_val, SLK_call, reduceCtorEq]))
      have hf : fltS t.bits = true := (node_kind (Fine.node hn)).2.2.2.2.2.2.1 k4
      have hf' : fltS t'.bits = true := (node_kind (Fine.node hn')).2.2.2.2.2.2.1 (hk ▸ k4)
      have p1 := flt_fin b4 hf
      have p2 := flt_fin b4' hf'
      refine (cmpF_ev p1.2.2.1 p2.2.2.1).mono ?_
      rintro v H1 ⟨rfl, rfl⟩
      repeat' (first | refine EvC.seq ?_ | refine EvC.scope ?_ | refine EvC.block ?_ | (refine EvC.skip ?_) | (refine EvC.exit ?_) | (refine EvC.ret ?_; try simp only [thenC_ret, inBlock_ret]) | (refine SCK_go ?_; simp (config := { maxSteps := 2000000 }) (disch := first | omega | rfl) only [dop_assign, ev_tmp, Tr.get_put, put_some, Nat.reduceEqDiff, Option.getD_some, Nat.reduceAdd, Nat.zero_add, reduceCtorEq, if_true, if_false, List.take_zero, List.length_cons, List.length_nil, and_self, true_and, List.getElem?_cons_succ, List.getElem?_cons_zero, ES_none, STG_op, STG_end, SOP_none, SGO_read, SRD_val, isAlloc, isRead, or_true, true_and, sameOn_nil, Nat.sub_self, reduceCtorEq, and_self]))
      exact leave_one rfl (by first | (simp only [Tr.get_put, Nat.reduceEqDiff, reduceCtorEq, if_true, if_false, Option.some.injEq]; rfl) | simp only []) ⟨by rw [ordT_eq, if_neg (fun h => h hk), if_neg k1, if_neg k3, if_pos k4, fltO_eq p1.2.2.2.1 p2.2.2.2.1 p1.2.1 p2.2.1 p1.1 p2.1, p1.2.2.2.2, p2.2.2.2.2], hx2.bump _⟩
    repeat' (first | refine EvC.seq ?_ | refine EvC.scope ?_ | refine EvC.block ?_ | (refine EvC.skip ?_; try simp only [thenC_normal, inBlock_normal]) | (refine EvC.exit ?_) | (refine EvC.ret ?_; try simp only [thenC_ret, inBlock_ret]) | (refine EvC.reg ?_; simp (config := { maxSteps := 2000000 }) (disch := first | omega | rfl) only [EL_cons, EL_nil, LX_val, dop_assign, dop_load, dop_fieldAddr, dop_bin, ev_const, ev_tmp, Tr.get_put, put_some, Nat.reduceEqDiff, Option.getD_some, Nat.add_zero, reduceCtorEq, if_true, if_false, dload1_some, thenC_normal, dBin_eql, dBin_neq, fa26_0, ld3, ine_f hk, q1, q2, ieq_f k1, ieq_f k3, ieq_f k4]) | (refine EvC.drw (id := 10) [([(0, 0), (1, 0), (2, 0), (3, 0), (4, 0), (5, 0)], some 6), ([(7, 0), (8, 0), (9, 0), (10, 0)], some 11), ([(12, 2)], some 13), ([(14, 3)], none)] ?_ ?_; kernel_rfl; simp (config := { maxSteps := 2000000 }) (disch := first | omega | rfl) only [dop_load, dop_fieldAddr, ev_tmp, Tr.get_put, put_some, Nat.reduceEqDiff, Option.getD_some, Nat.reduceAdd, Nat.zero_add, reduceCtorEq, if_true, if_false, dload1_some, List.take_zero, List.length_cons, List.length_nil, List.map_cons, List.map_nil, and_self, true_and, thenC_normal, List.getElem?_cons_succ, List.getElem?_cons_zero, dop_len, cl83, fa26_5, ld24, ln24, q1, q2, ES_some, STG_op, STG_eff, SOP_none, SGO_read, SRD_val, SEF_none, SLK_call, isAlloc, isRead, or_true, true_and, sameOn_nil, Nat.sub_self, reduceCtorEq, load_bump, List.size_toArray, and_self]) | (refine EvC.condT ?_ ?_; simp (config := { maxSteps := 2000000 }) (disch := first | omega | rfl) only [ev_tmp, Tr.get_put, Nat.reduceEqDiff, Option.getD_some, reduceCtorEq, if_true, if_false]; refine EvC_go ?_) | (refine EvC.condF ?_ ?_; simp (config := { maxSteps := 2000000 }) (disch := first | omega | rfl) only [ev_tmp, Tr.get_put, Nat.reduceEqDiff, Option.getD_some, reduceCtorEq, if_true, if_false]; refine EvC_go ?_))
    refine cmpI_ev.mono ?_
    rintro v H1 ⟨rfl, rfl⟩
    repeat' (first | refine EvC.seq ?_ | refine EvC.scope ?_ | refine EvC.block ?_ | (refine EvC.skip ?_) | (refine EvC.exit ?_) | (refine EvC.ret ?_; try simp only [thenC_ret, inBlock_ret]) | (refine SCK_go ?_; simp (config := { maxSteps := 2000000 }) (disch := first | omega | rfl) only [dop_load, dop_fieldAddr, ev_tmp, Tr.get_put, put_some, Nat.reduceEqDiff, Option.getD_some, Nat.zero_add, Bool.and_self, reduceCtorEq, if_true, if_false, dload1_some, List.take_succ_cons, List.take_zero, List.length_cons, List.length_nil, Nat.beq_refl, List.map_cons, List.map_nil, and_self, true_and, List.getElem?_cons_succ, List.getElem?_cons_zero, ld9, fa26_1, cl91, q1, q2, ES_some, STG_op, STG_eff, SOP_none, SGO_read, SRD_val, SEF_none, SLK_call, isAlloc, isRead, or_true, true_and, sameOn_nil, Nat.sub_zero, reduceCtorEq, load_bump, sameOn_cons, sameK_val, and_self, Bool.and_self, vq_str, vq_ptr]))
    refine cmpS_ev.mono ?_
    rintro v H1 ⟨rfl, rfl⟩
    repeat' (first | refine EvC.seq ?_ | refine EvC.scope ?_ | refine EvC.block ?_ | (refine EvC.skip ?_) | (refine EvC.exit ?_) | (refine EvC.ret ?_; try simp only [thenC_ret, inBlock_ret]) | (refine SCK_go ?_; simp (config := { maxSteps := 2000000 }) (disch := first | omega | rfl) only [ev_tmp, Tr.get_put, put_some, Nat.reduceEqDiff, Option.getD_some, Nat.reduceAdd, Nat.zero_add, Value.cells, List.all_cons, List.all_nil, one, Bool.and_self, reduceCtorEq, if_true, if_false, get_new, List.drop_succ_cons, List.drop_zero, List.length_cons, List.length_nil, List.map_cons, List.map_nil, splice_zero, splice_succ, List.cons_append, List.nil_append, List.append_nil, Nat.reduceLeDiff, Nat.le_refl, and_self, List.drop_nil, List.getElem?_cons_succ, List.getElem?_cons_zero, layC, dop_buildSlice, dBs_true, bs46_2, cl90, ES_some, STG_op, STG_eff, SOP_none, SGO_alloc, SAL_some, SEF_none, SLK_call, isAlloc, dalloc, reduceCtorEq, and_self, Bool.and_self]))
    obtain ⟨H3, e3, hx3, g3, hw3⟩ := bump1 hw2 15 12 (by omega) (.row [.int .i64 (cmpZ t.args.length t'.args.length), .int .i64 (cmpS t.name t'.name)] 3)
    simp only [e3]
    clear e3
    refine (or_ev (row2 g3).1 (row2 g3).2).mono ?_
    rintro v H1 ⟨rfl, rfl⟩
    have gp3 := hx3.get hw2 gp
    have gq3 := hx3.get hw2 gq
    have hx23 := hx2.trans hx3
    repeat' (first | refine EvC.seq ?_ | refine EvC.scope ?_ | refine EvC.block ?_ | (refine EvC.skip ?_) | (refine EvC.exit ?_) | (refine EvC.ret ?_; try simp only [thenC_ret, inBlock_ret]) | (refine EvC.reg ?_; simp (config := { maxSteps := 2000000 }) (disch := first | omega | rfl) only [EL_cons, EL_nil, LX_val, dop_assign, ev_const, put_some, thenC_normal]) | (refine SCK_go ?_; simp (config := { maxSteps := 2000000 }) (disch := first | omega | rfl) only [dop_assign, ev_tmp, Tr.get_put, put_some, Nat.reduceEqDiff, Option.getD_some, Nat.reduceAdd, Nat.zero_add, reduceCtorEq, if_true, if_false, List.take_zero, List.length_cons, List.length_nil, and_self, true_and, List.getElem?_cons_succ, List.getElem?_cons_zero, ES_none, STG_op, STG_end, SOP_none, SGO_read, SRD_val, isAlloc, isRead, or_true, true_and, sameOn_nil, Nat.sub_self, reduceCtorEq, and_self]))
    refine EvC.loop (fun k st => ∃ tm H' i w, st = ⟨tm, [], H'⟩ ∧ k = t.args.length - i ∧ i ≤ t.args.length ∧ (headZ t t' = 0 ∨ headZ t t' = w) ∧ (headZ t t' = 0 → (if w = 0 then ordL (t.args.drop i) (t'.args.drop i) else w) = ordL t.args t'.args) ∧
      tm.get 2 = some (.pointer (some ⟨H.next, 0, none⟩)) ∧ tm.get 3 = some (.pointer (some ⟨H.next + 1, 0, none⟩)) ∧ tm.get 5 = some (.int .i64 w) ∧ tm.get 6 = some (.int .i64 (i : Nat)) ∧
      H'.get H.next = some (.row (six t a c) 26) ∧ H'.get (H.next + 1) = some (.row (six t' a' c') 26) ∧ HX H H') ?_ t.args.length _ ?_
    · rintro k st ⟨tm, H', i, w, rfl, rfl, hi, hh, hc, t2, t3, t5, t6, gp', gq', hx'⟩
      have q1 := row6 gp'
      have q2 := row6 gq'
      have fin : ∀ u : Int, ordT t t' = if headZ t t' = 0 then ordL t.args t'.args else headZ t t' := fun _ => by rw [ordT_eq, if_neg (fun h => h hk), if_neg k1, if_neg k3, if_neg k4]
      by_cases hlt : i < t.args.length
      · by_cases h0 : w = 0
        · have hh0 : headZ t t' = 0 := by rcases hh with h | h; exact h; rw [h]; exact h0
          have hlt' : i < t'.args.length := by rw [← head_len hh0]; exact hlt
          obtain ⟨b, o, a1, c1, rfl, hld, hr1⟩ := rl.el hlt
          obtain ⟨b', o', a2, c2, rfl, hld', hr2⟩ := rl'.el hlt'
          have hld1 := hx'.load hw hld
          have hld2 := hx'.load hw hld'
          repeat' (first | refine EvC.seq ?_ | refine EvC.scope ?_ | refine EvC.block ?_ | (refine EvC.skip ?_; try simp only [thenC_normal]) | (refine EvC.exit ?_) | (refine EvC.ret ?_; try simp only [thenC_ret, inBlock_ret]) | (refine EvC.reg ?_; simp (config := { maxSteps := 2000000 }) (disch := first | omega | rfl) only [EL_cons, EL_nil, EL_guard, LX_val, LG_tt, dop_move, dop_pick, dPick_bool, dop_load, dop_fieldAddr, dop_bin, dBin_lss, ev_const, ev_tmp, Tr.get_put, put_some, Nat.reduceEqDiff, Option.getD_some, Nat.zero_add, if_true, if_false, dload1_some, thenC_normal, guardOf_eq, guardGet_some, List.getElem?_cons_succ, List.getElem?_cons_zero, dBin_eql, dop_len, fa26_5, ld24, ln24, t2, t5, t6, q1, decl hlt, ieq_t h0]) | (refine EvC.drw (id := 14) [([(0, 0), (1, 0), (2, 0), (3, 0), (4, 0), (5, 0), (6, 0), (7, 0), (8, 0), (9, 0)], some 10), ([(11, 1)], none)] ?_ ?_; kernel_rfl; simp (config := { maxSteps := 2000000 }) (disch := first | omega | rfl) only [dop_move, dop_load, dop_fieldAddr, dop_indexAddr, ev_tmp, Tr.get_put, put_some, Nat.reduceEqDiff, Option.getD_some, Nat.reduceAdd, Nat.zero_add, reduceCtorEq, if_true, if_false, dloadA_some, dload1_some, List.take_zero, List.length_cons, List.length_nil, List.map_cons, List.map_nil, and_self, true_and, thenC_normal, inBlock_normal, List.getElem?_cons_succ, List.getElem?_cons_zero, fa26_5, ld24, ia24, ld26, cl53, t2, t3, t6, q1, q2, hld1, hld2, ES_some, STG_op, STG_eff, SOP_none, SGO_read, SRD_val, SEF_none, SLK_call, isAlloc, isRead, or_true, true_and, sameOn_nil, Nat.sub_self, reduceCtorEq, load_bump, List.size_toArray, and_self]) | (refine EvC.condT ?_ ?_; simp (config := { maxSteps := 2000000 }) (disch := first | omega | rfl) only [ev_tmp, Tr.get_put, Nat.reduceEqDiff, Option.getD_some, if_true, if_false]; refine EvC_go ?_))
          have hb := hx'.bump 12
          have hs := args_size (List.getElem?_eq_getElem hlt)
          refine (ih (t := t.args[i]) (t' := t'.args[i]) (by omega) (hr1.mono hb hw) (hr2.mono hb hw) (hn.args _ (List.getElem_mem _)) (hn'.args _ (List.getElem_mem _)) hb.wf).mono ?_
          rintro v H4 ⟨rfl, hx4⟩
          have hx5 := hb.trans hx4
          have hm := rl.max
          repeat' (first | refine EvC.seq ?_ | refine EvC.scope ?_ | refine EvC.block ?_ | (refine EvC.skip ?_) | (refine EvC.exit ?_) | (refine EvC.ret ?_; try simp only [thenC_ret, inBlock_ret]) | (refine EvC.reg ?_; simp (config := { maxSteps := 2000000 }) (disch := first | omega | rfl) only [EL_cons, EL_nil, LX_val, dop_assign, dop_move, dop_bin, dBin_add, ev_const, ev_tmp, Tr.get_put, put_some, Nat.reduceEqDiff, Option.getD_some, if_true, if_false, thenC_normal, t6, wrap_i64]) | (refine SCK_go ?_; simp (config := { maxSteps := 2000000 }) (disch := first | omega | rfl) only [dop_assign, ev_tmp, Tr.get_put, put_some, Nat.reduceEqDiff, Option.getD_some, Nat.zero_add, if_true, if_false, List.take_zero, List.length_cons, List.length_nil, and_self, true_and, List.getElem?_cons_succ, List.getElem?_cons_zero, ES_none, STG_op, STG_end, SOP_none, SGO_read, SRD_val, isAlloc, isRead, or_true, true_and, sameOn_nil, Nat.sub_self, and_self]))
          refine ⟨t.args.length - (i + 1), by omega, _, _, i + 1, ordT t.args[i] t'.args[i], rfl, rfl, by omega, .inl hh0, fun _ => ?_, (by first | (simp only [Tr.get_put, Nat.reduceEqDiff, if_false, t2]; rfl) | simp only [Tr.get_put, Nat.reduceEqDiff, if_false, t2]), (by first | (simp only [Tr.get_put, Nat.reduceEqDiff, if_false, t3]; rfl) | simp only [Tr.get_put, Nat.reduceEqDiff, if_false, t3]), (by first | (simp only [Tr.get_put, Nat.reduceEqDiff, if_true, if_false]; rfl) | simp only [Tr.get_put, Nat.reduceEqDiff, if_true, if_false]), (by first | (simp only [Tr.get_put, Nat.reduceEqDiff, if_true, if_false, Option.some.injEq]; rfl) | simp only []), hx4.get hb.wf gp', hx4.get hb.wf gq', hx5⟩
          rw [← hc hh0, if_pos h0, ordL_drop (List.getElem?_eq_getElem hlt) (List.getElem?_eq_getElem hlt')]
        · repeat' (first | refine EvC.seq ?_ | refine EvC.scope ?_ | refine EvC.block ?_ | (refine EvC.skip ?_) | (refine EvC.exit ?_; try simp only [if_true, thenC_normal, inBlock_exit, thenC_exit]) | (refine EvC.ret ?_; try simp only [thenC_ret, inBlock_ret]) | (refine EvC.reg ?_; simp (config := { maxSteps := 2000000 }) (disch := first | omega | rfl) only [EL_cons, EL_nil, EL_guard, LX_val, LG_tt, dop_assign, dop_move, dop_pick, dPick_bool, dop_load, dop_fieldAddr, dop_bin, dBin_lss, ev_const, ev_tmp, Tr.get_put, put_some, Nat.reduceEqDiff, Option.getD_some, Nat.zero_add, if_true, if_false, dload1_some, thenC_normal, guardOf_eq, guardGet_some, List.getElem?_cons_succ, List.getElem?_cons_zero, dBin_eql, dop_len, fa26_5, ld24, ln24, t2, t5, t6, q1, decl hlt, ieq_f h0]) | (refine EvC.condT ?_ ?_; simp (config := { maxSteps := 2000000 }) (disch := first | omega | rfl) only [ev_tmp, Tr.get_put, Nat.reduceEqDiff, Option.getD_some, if_true, if_false]; refine EvC_go ?_) | (refine EvC.condF ?_ ?_; simp (config := { maxSteps := 2000000 }) (disch := first | omega | rfl) only [ev_tmp, Tr.get_put, Nat.reduceEqDiff, Option.getD_some, if_true, if_false]; refine EvC_go ?_))
          refine leave_one rfl (by first | (simp only [Tr.get_put, Nat.reduceEqDiff, if_true, if_false, Option.some.injEq]; rfl) | simp only []) ⟨?_, hx'⟩
          rw [fin 0]
          by_cases hh0 : headZ t t' = 0
          · rw [if_pos hh0, ← hc hh0, if_neg h0]
          · rw [if_neg hh0]; rcases hh with h | h
            · exact absurd h hh0
            · rw [h]
      · repeat' (first | refine EvC.seq ?_ | refine EvC.scope ?_ | refine EvC.block ?_ | (refine EvC.skip ?_) | (refine EvC.exit ?_; try simp only [if_true, thenC_normal, inBlock_exit, thenC_exit]) | (refine EvC.ret ?_; try simp only [thenC_ret, inBlock_ret]) | (refine EvC.reg ?_; simp (config := { maxSteps := 2000000 }) (disch := first | omega | rfl) only [EL_cons, EL_nil, EL_guard, LX_val, LG_tf, dop_assign, dop_move, dop_pick, dPick_bool, dop_load, dop_fieldAddr, dop_bin, dBin_lss, ev_const, ev_tmp, Tr.get_put, put_some, Nat.reduceEqDiff, Option.getD_some, Nat.zero_add, if_true, if_false, dload1_some, thenC_normal, guardOf_eq, guardGet_some, List.getElem?_cons_succ, List.getElem?_cons_zero, dop_len, fa26_5, ld24, ln24, t2, t5, t6, q1, decn hlt, Bool.false_eq_true]) | (refine EvC.condT ?_ ?_; simp (config := { maxSteps := 2000000 }) (disch := first | omega | rfl) only [ev_tmp, Tr.get_put, Nat.reduceEqDiff, Option.getD_some, if_true, if_false]; refine EvC_go ?_) | (refine EvC.condF ?_ ?_; simp (config := { maxSteps := 2000000 }) (disch := first | omega | rfl) only [ev_tmp, Tr.get_put, Nat.reduceEqDiff, Option.getD_some, if_true, if_false]; refine EvC_go ?_))
        refine leave_one rfl (by first | (simp only [Tr.get_put, Nat.reduceEqDiff, if_true, if_false, Option.some.injEq]; rfl) | simp only []) ⟨?_, hx'⟩
        rw [fin 0]
        by_cases hh0 : headZ t t' = 0
        · rw [if_pos hh0, ← hc hh0, List.drop_of_length_le (by omega)]
          by_cases h0 : w = 0
          · rw [if_pos h0, ordL, h0]
          · rw [if_neg h0]
        · rw [if_neg hh0]; rcases hh with h | h
          · exact absurd h hh0
          · rw [h]
    · refine ⟨_, _, 0, headZ t t', rfl, rfl, by omega, .inr rfl, fun h => by rw [if_pos h]; rfl, (by first | (simp only [Tr.get_put, Nat.reduceEqDiff, reduceCtorEq, if_true, if_false]; rfl) | simp only [Tr.get_put, Nat.reduceEqDiff, reduceCtorEq, if_true, if_false]), (by first | (simp only [Tr.get_put, Nat.reduceEqDiff, reduceCtorEq, if_true, if_false]; rfl) | simp only [Tr.get_put, Nat.reduceEqDiff, reduceCtorEq, if_true, if_false]), (by first | (simp only [Tr.get_put, Nat.reduceEqDiff, reduceCtorEq, if_true, if_false, Option.some.injEq]; rfl) | simp only []), (by first | (simp only [Tr.get_put, Nat.reduceEqDiff, reduceCtorEq, if_true, if_false, Option.some.injEq]; rfl) | simp only []), gp3, gq3, hx23⟩
  · repeat' (first | refine EvC.seq ?_ | refine EvC.scope ?_ | refine EvC.block ?_ | (refine EvC.skip ?_) | (refine EvC.exit ?_) | (refine EvC.ret ?_; try simp only [thenC_ret, inBlock_ret]) | (refine EvC.reg ?_; simp (config := { maxSteps := 2000000 }) (disch := first | omega | rfl) only [EL_cons, EL_nil, LX_val, dop_load, dop_fieldAddr, dop_bin, ev_tmp, Tr.get_put, put_some, Nat.reduceEqDiff, Option.getD_some, Nat.add_zero, reduceCtorEq, if_true, if_false, dload1_some, thenC_normal, dBin_neq, fa26_0, ld3, ine_t hk, q1, q2]) | (refine EvC.drw (id := 2) [([(0, 0), (1, 0)], some 2), ([(3, 0), (4, 0)], some 5), ([], some 6), ([(7, 3)], none)] ?_ ?_; kernel_rfl; simp (config := { maxSteps := 2000000 }) (disch := first | omega | rfl) only [dop_load, dop_fieldAddr, ev_tmp, Tr.get_put, put_some, Nat.reduceEqDiff, Option.getD_some, Nat.reduceAdd, Nat.add_zero, Nat.zero_add, reduceCtorEq, if_true, if_false, dload1_some, List.take_zero, List.length_cons, List.length_nil, List.map_cons, List.map_nil, and_self, true_and, thenC_normal, List.getElem?_cons_succ, List.getElem?_cons_zero, fa26_0, ld3, cl86, q1, ES_some, STG_op, STG_eff, SOP_none, SGO_read, SRD_val, SEF_none, SLK_call, isAlloc, isRead, or_true, true_and, sameOn_nil, Nat.sub_self, reduceCtorEq, load_bump, List.size_toArray, and_self]) | (refine EvC.condT ?_ ?_; simp (config := { maxSteps := 2000000 }) (disch := first | omega | rfl) only [ev_tmp, Tr.get_put, Nat.reduceEqDiff, Option.getD_some, reduceCtorEq, if_true, if_false]; refine EvC_go ?_))
    refine rank_ev.mono ?_
    rintro v H1 ⟨rfl, rfl⟩
    repeat' (first | refine EvC.seq ?_ | refine EvC.scope ?_ | refine EvC.block ?_ | (refine EvC.skip ?_) | (refine EvC.exit ?_) | (refine EvC.ret ?_; try simp only [thenC_ret, inBlock_ret]) | (refine SCK_go ?_; simp (config := { maxSteps := 2000000 }) (disch := first | omega | rfl) only [dop_load, dop_fieldAddr, ev_tmp, Tr.get_put, put_some, Nat.reduceEqDiff, Option.getD_some, Nat.add_zero, Nat.zero_add, Bool.and_self, reduceCtorEq, if_true, if_false, dload1_some, List.take_succ_cons, List.take_zero, List.length_cons, List.length_nil, Nat.beq_refl, List.map_cons, List.map_nil, and_self, true_and, List.getElem?_cons_succ, List.getElem?_cons_zero, fa26_0, ld3, cl86, q2, ES_some, STG_op, STG_eff, SOP_none, SGO_read, SRD_val, SEF_none, SLK_call, isAlloc, isRead, or_true, true_and, sameOn_nil, Nat.sub_zero, reduceCtorEq, load_bump, sameOn_cons, sameK_val, and_self, Bool.and_self, vq_int, vq_ptr]))
    refine rank_ev.mono ?_
    rintro v H2 ⟨rfl, rfl⟩
    repeat' (first | refine EvC.seq ?_ | refine EvC.scope ?_ | refine EvC.block ?_ | (refine EvC.skip ?_) | (refine EvC.exit ?_) | (refine EvC.ret ?_; try simp only [thenC_ret, inBlock_ret]) | (refine SCK_go ?_; simp (config := { maxSteps := 2000000 }) (disch := first | omega | rfl) only [ev_tmp, Tr.get_put, put_some, Nat.reduceEqDiff, Option.getD_some, reduceCtorEq, if_true, if_false, List.map_cons, List.map_nil, List.getElem?_cons_succ, List.getElem?_cons_zero, cl83, ES_some, STG_eff, SEF_none, SLK_call, reduceCtorEq]))
    refine cmpI_ev.mono ?_
    rintro v H3 ⟨rfl, rfl⟩
    repeat' (first | refine EvC.seq ?_ | refine EvC.scope ?_ | refine EvC.block ?_ | (refine EvC.skip ?_) | (refine EvC.exit ?_) | (refine EvC.ret ?_; try simp only [thenC_ret, inBlock_ret]) | (refine SCK_go ?_; simp (config := { maxSteps := 2000000 }) (disch := first | omega | rfl) only [dop_assign, ev_tmp, Tr.get_put, put_some, Nat.reduceEqDiff, Option.getD_some, Nat.reduceAdd, Nat.zero_add, reduceCtorEq, if_true, if_false, List.take_zero, List.length_cons, List.length_nil, and_self, true_and, List.getElem?_cons_succ, List.getElem?_cons_zero, ES_none, STG_op, STG_end, SOP_none, SGO_read, SRD_val, isAlloc, isRead, or_true, true_and, sameOn_nil, Nat.sub_self, reduceCtorEq, and_self]))
    exact leave_one rfl (by first | (simp only [Tr.get_put, Nat.reduceEqDiff, reduceCtorEq, if_true, if_false, Option.some.injEq]; rfl) | simp only []) ⟨by rw [ordT_eq, if_pos hk], hx2.bump _⟩

end Go.Proofs.YtlllbkjiadcloaaDoor.hb
end

-- Z12
section
/- The order of terms: the reference's. -/
namespace Go.Proofs.YtlllbkjiadcloaaDoor.hb
open Go Go.RowKit Go.Hb
variable {ok : Ok}
set_option maxRecDepth 10000
attribute [local irreducible] LX LG EL STG SOP SGO SGD SAL SRD SEF SEG SLK SCK ES
-- @veq

-- hornbeamref02.Order
set_option maxHeartbeats 4000000 in
theorem orderR_ev {m : Nat} : ∀ {t t' : Tm} {cs cs' : List Value} {H : Heap}, SizeOf.sizeOf t < m → RepT H t cs → RepT H t' cs' → Fine t → Fine t' → H.wf →
    EvF Tryd.prog okT 19 [.agg ⟨cs⟩, .agg ⟨cs'⟩] H fun v H' => v = .int .i64 (ordT t t') ∧ HX H H' := by
  induction m with
  | zero => intro t t' cs cs' H h; omega
  | succ m ih =>
  intro t t' cs cs' H hsz r r' hn hn' hw
  have kk := node_kind (Fine.node hn)
  have kk' := node_kind (Fine.node hn')
  obtain ⟨a, c, cells, rfl, b1, b2, b3, b4, b5, rl⟩ := r.six
  obtain ⟨a', c', cells', rfl, b1', b2', b3', b4', b5', rl'⟩ := r'.six
  refine EvF.enter rfl Tryd.func19 (by decide) rfl ?_
  (repeat refine EvC.seq ?_); refine EvC.reg ?_; simp (config := { maxSteps := 2000000 }) (disch := first | omega | rfl) only [initTm, EL_cons, EL_nil, LX_val, dop_box, dBox, dop_assign, ev_const, ev_tmp, Tr.get_put, put_some, Nat.reduceEqDiff, Option.getD_some, Nat.zero_add, Value.cells, List.all_cons, List.all_nil, one, Bool.and_self, reduceCtorEq, if_true, if_false, next_new, thenC_normal]
  obtain ⟨H2, e2, hx2, gp, gq, hnx, hw2⟩ := new2 hw (.row (six t a c) 26) (.row (six t' a' c') 26)
  simp only [e2]
  have q1 := row6 gp
  have q2 := row6 gq
  clear e2
  by_cases hk : t.kind = t'.kind
  · by_cases k1 : t.kind = 1
    · repeat' (first | refine EvC.seq ?_ | refine EvC.scope ?_ | refine EvC.block ?_ | (refine EvC.skip ?_; try simp only [thenC_normal]) | (refine EvC.exit ?_) | (refine EvC.ret ?_; try simp only [thenC_ret, inBlock_ret]) | (refine EvC.reg ?_; simp (config := { maxSteps := 2000000 }) (disch := first | omega | rfl) only [EL_cons, EL_nil, LX_val, LX_call, dop_assign, dop_load, dop_fieldAddr, dop_bin, ev_const, ev_tmp, Tr.get_put, put_some, Nat.reduceEqDiff, Option.getD_some, Nat.add_zero, Nat.zero_add, reduceCtorEq, if_true, if_false, dload1_some, List.map_cons, List.map_nil, thenC_normal, dBin_eql, dBin_neq, fa26_0, ld3, cl55, fa26_4, ine_f hk, q1, q2, ieq_t k1]) | (refine EvC.condT ?_ ?_; simp (config := { maxSteps := 2000000 }) (disch := first | omega | rfl) only [ev_tmp, Tr.get_put, Nat.reduceEqDiff, Option.getD_some, reduceCtorEq, if_true, if_false]; refine EvC_go ?_) | (refine EvC.condF ?_ ?_; simp (config := { maxSteps := 2000000 }) (disch := first | omega | rfl) only [ev_tmp, Tr.get_put, Nat.reduceEqDiff, Option.getD_some, reduceCtorEq, if_true, if_false]; refine EvC_go ?_))
      refine sign_ev.mono ?_
      rintro v H1 ⟨rfl, rfl⟩
      repeat' (first | refine EvC.seq ?_ | refine EvC.scope ?_ | refine EvC.block ?_ | (refine EvC.skip ?_) | (refine EvC.exit ?_) | (refine EvC.ret ?_; try simp only [thenC_ret, inBlock_ret]))
      exact leave_one rfl (by first | (simp only [Tr.get_put, Nat.reduceEqDiff, reduceCtorEq, if_true, if_false, Option.some.injEq]; rfl) | simp only []) ⟨by rw [ordT_eq, if_neg (fun h => h hk), if_pos k1], hx2⟩
    by_cases k3 : t.kind = 3
    · repeat' (first | refine EvC.seq ?_ | refine EvC.scope ?_ | refine EvC.block ?_ | (refine EvC.skip ?_; try simp only [thenC_normal]) | (refine EvC.exit ?_) | (refine EvC.ret ?_; try simp only [thenC_ret, inBlock_ret]) | (refine EvC.reg ?_; simp (config := { maxSteps := 2000000 }) (disch := first | omega | rfl) only [EL_cons, EL_nil, LX_val, LX_call, dop_assign, dop_load, dop_fieldAddr, dop_bin, ev_const, ev_tmp, Tr.get_put, put_some, Nat.reduceEqDiff, Option.getD_some, Nat.add_zero, Nat.zero_add, reduceCtorEq, if_true, if_false, dload1_some, List.map_cons, List.map_nil, thenC_normal, dBin_eql, dBin_neq, fa26_0, ld3, fa26_2, ld9, cl57, ine_f hk, q1, q2, ieq_f k1, ieq_t k3]) | (refine EvC.condT ?_ ?_; simp (config := { maxSteps := 2000000 }) (disch := first | omega | rfl) only [ev_tmp, Tr.get_put, Nat.reduceEqDiff, Option.getD_some, reduceCtorEq, if_true, if_false]; refine EvC_go ?_) | (refine EvC.condF ?_ ?_; simp (config := { maxSteps := 2000000 }) (disch := first | omega | rfl) only [ev_tmp, Tr.get_put, Nat.reduceEqDiff, Option.getD_some, reduceCtorEq, if_true, if_false]; refine EvC_go ?_))
      refine (ints_ev b3 b3' (canon_pos (kk.2.2.2.2.2.1 k3)) (canon_pos (kk'.2.2.2.2.2.1 (hk ▸ k3)))).mono ?_
      rintro v H1 ⟨rfl, rfl⟩
      repeat' (first | refine EvC.seq ?_ | refine EvC.scope ?_ | refine EvC.block ?_ | (refine EvC.skip ?_) | (refine EvC.exit ?_) | (refine EvC.ret ?_; try simp only [thenC_ret, inBlock_ret]))
      exact leave_one rfl (by first | (simp only [Tr.get_put, Nat.reduceEqDiff, reduceCtorEq, if_true, if_false, Option.some.injEq]; rfl) | simp only []) ⟨by rw [ordT_eq, if_neg (fun h => h hk), if_neg k1, if_pos k3], hx2⟩
    by_cases k4 : t.kind = 4
    · have p1 := flt_fin b4 (kk.2.2.2.2.2.2.1 k4)
      have p2 := flt_fin b4' (kk'.2.2.2.2.2.2.1 (hk ▸ k4))
      repeat' (first | refine EvC.seq ?_ | refine EvC.scope ?_ | refine EvC.block ?_ | (refine EvC.skip ?_; try simp only [thenC_normal]) | (refine EvC.exit ?_) | (refine EvC.ret ?_; try simp only [thenC_ret, inBlock_ret]) | (refine EvC.reg ?_; simp (config := { maxSteps := 2000000 }) (disch := first | omega | rfl) only [EL_cons, EL_nil, LX_val, LX_call, dop_assign, dop_load, dop_fieldAddr, dop_bin, ev_const, ev_tmp, Tr.get_put, put_some, Nat.reduceEqDiff, Option.getD_some, Nat.add_zero, Nat.zero_add, reduceCtorEq, if_true, if_false, dload1_some, List.map_cons, List.map_nil, thenC_normal, dBin_eql, dBin_neq, fa26_0, ld3, fa26_3, ld23, cl58, ine_f hk, q1, q2, ieq_f k1, ieq_f k3, ieq_t k4]) | (refine EvC.condT ?_ ?_; simp (config := { maxSteps := 2000000 }) (disch := first | omega | rfl) only [ev_tmp, Tr.get_put, Nat.reduceEqDiff, Option.getD_some, reduceCtorEq, if_true, if_false]; refine EvC_go ?_) | (refine EvC.condF ?_ ?_; simp (config := { maxSteps := 2000000 }) (disch := first | omega | rfl) only [ev_tmp, Tr.get_put, Nat.reduceEqDiff, Option.getD_some, reduceCtorEq, if_true, if_false]; refine EvC_go ?_))
      rw [← p1.2.2.2.2, ← p2.2.2.2.2]
      refine (fltR_ev p1.2.2.2.1 p2.2.2.2.1).mono ?_
      rintro v H1 ⟨rfl, rfl⟩
      repeat' (first | refine EvC.seq ?_ | refine EvC.scope ?_ | refine EvC.block ?_ | (refine EvC.skip ?_) | (refine EvC.exit ?_) | (refine EvC.ret ?_; try simp only [thenC_ret, inBlock_ret]))
      exact leave_one rfl (by first | (simp only [Tr.get_put, Nat.reduceEqDiff, reduceCtorEq, if_true, if_false, Option.some.injEq]; rfl) | simp only []) ⟨by rw [ordT_eq, if_neg (fun h => h hk), if_neg k1, if_neg k3, if_pos k4, p1.2.2.2.2, p2.2.2.2.2], hx2⟩
    have fin : ordT t t' = if headZ t t' = 0 then ordL t.args t'.args else headZ t t' := by rw [ordT_eq, if_neg (fun h => h hk), if_neg k1, if_neg k3, if_neg k4]
    by_cases k2 : t.kind = 2
    · repeat' (first | refine EvC.seq ?_ | refine EvC.scope ?_ | refine EvC.block ?_ | (refine EvC.skip ?_; try simp only [thenC_normal]) | (refine EvC.exit ?_) | (refine EvC.ret ?_; try simp only [thenC_ret, inBlock_ret]) | (refine EvC.reg ?_; simp (config := { maxSteps := 2000000 }) (disch := first | omega | rfl) only [EL_cons, EL_nil, LX_val, LX_call, dop_assign, dop_load, dop_fieldAddr, dop_bin, ev_const, ev_tmp, Tr.get_put, put_some, Nat.reduceEqDiff, Option.getD_some, Nat.add_zero, Nat.zero_add, reduceCtorEq, if_true, if_false, dload1_some, List.map_cons, List.map_nil, thenC_normal, dBin_eql, dBin_neq, fa26_0, ld3, ld9, fa26_1, cl59, ine_f hk, q1, q2, ieq_f k1, ieq_f k3, ieq_f k4, ieq_t k2]) | (refine EvC.condT ?_ ?_; simp (config := { maxSteps := 2000000 }) (disch := first | omega | rfl) only [ev_tmp, Tr.get_put, Nat.reduceEqDiff, Option.getD_some, reduceCtorEq, if_true, if_false]; refine EvC_go ?_) | (refine EvC.condF ?_ ?_; simp (config := { maxSteps := 2000000 }) (disch := first | omega | rfl) only [ev_tmp, Tr.get_put, Nat.reduceEqDiff, Option.getD_some, reduceCtorEq, if_true, if_false]; refine EvC_go ?_))
      refine texts_ev.mono ?_
      rintro v H1 ⟨rfl, rfl⟩
      repeat' (first | refine EvC.seq ?_ | refine EvC.scope ?_ | refine EvC.block ?_ | (refine EvC.skip ?_) | (refine EvC.exit ?_) | (refine EvC.ret ?_; try simp only [thenC_ret, inBlock_ret]))
      refine leave_one rfl (by first | (simp only [Tr.get_put, Nat.reduceEqDiff, reduceCtorEq, if_true, if_false, Option.some.injEq]; rfl) | simp only []) ⟨?_, hx2⟩
      have e1 := (blank_fields kk.2.2.1).2.2.2.2 (by omega)
      have e2 := (blank_fields kk'.2.2.1).2.2.2.2 (by omega)
      rw [fin]
      unfold headZ
      rw [e1, e2, ordL]
      simp [orZ, cmpZ]
    by_cases hl : t.args.length = t'.args.length
    · have hl' : (t.args.length : Int) = t'.args.length := by omega
      have hz : headZ t t' = cmpS t.name t'.name := by unfold headZ; rw [cmpZ_zero.2 hl', orZ, if_pos rfl]
      repeat' (first | refine EvC.seq ?_ | refine EvC.scope ?_ | refine EvC.block ?_ | (refine EvC.skip ?_; try simp only [thenC_normal, inBlock_normal]) | (refine EvC.exit ?_) | (refine EvC.ret ?_; try simp only [thenC_ret, inBlock_ret]) | (refine EvC.reg ?_; simp (config := { maxSteps := 2000000 }) (disch := first | omega | rfl) only [EL_cons, EL_nil, LX_val, LX_call, dop_assign, dop_load, dop_fieldAddr, dop_bin, ev_const, ev_tmp, Tr.get_put, put_some, Nat.reduceEqDiff, Option.getD_some, Nat.add_zero, Nat.zero_add, reduceCtorEq, if_true, if_false, dload1_some, List.map_cons, List.map_nil, thenC_normal, dBin_eql, dBin_neq, dop_len, fa26_0, ld3, ld9, fa26_1, cl59, fa26_5, ld24, ln24, ine_f hk, q1, q2, ieq_f k1, ieq_f k3, ieq_f k4, ieq_f k2, ine_f hl']) | (refine EvC.condT ?_ ?_; simp (config := { maxSteps := 2000000 }) (disch := first | omega | rfl) only [ev_tmp, Tr.get_put, Nat.reduceEqDiff, Option.getD_some, reduceCtorEq, if_true, if_false]; refine EvC_go ?_) | (refine EvC.condF ?_ ?_; simp (config := { maxSteps := 2000000 }) (disch := first | omega | rfl) only [ev_tmp, Tr.get_put, Nat.reduceEqDiff, Option.getD_some, reduceCtorEq, if_true, if_false]; refine EvC_go ?_))
      refine texts_ev.mono ?_
      rintro v H1 ⟨rfl, rfl⟩
      repeat' (first | refine EvC.seq ?_ | refine EvC.scope ?_ | refine EvC.block ?_ | (refine EvC.skip ?_) | (refine EvC.exit ?_) | (refine EvC.ret ?_; try simp only [thenC_ret, inBlock_ret]) | (refine EvC.reg ?_; simp (config := { maxSteps := 2000000 }) (disch := first | omega | rfl) only [EL_cons, EL_nil, LX_val, dop_assign, ev_const, put_some, thenC_normal]))
      refine EvC.loop (fun k st => ∃ tm H' i w, st = ⟨tm, [], H'⟩ ∧ k = t.args.length - i ∧ i ≤ t.args.length ∧ (headZ t t' = 0 ∨ headZ t t' = w) ∧ (headZ t t' = 0 → (if w = 0 then ordL (t.args.drop i) (t'.args.drop i) else w) = ordL t.args t'.args) ∧
        tm.get 2 = some (.pointer (some ⟨H.next, 0, none⟩)) ∧ tm.get 3 = some (.pointer (some ⟨H.next + 1, 0, none⟩)) ∧ tm.get 5 = some (.int .i64 w) ∧ tm.get 6 = some (.int .i64 (i : Nat)) ∧
        H'.get H.next = some (.row (six t a c) 26) ∧ H'.get (H.next + 1) = some (.row (six t' a' c') 26) ∧ HX H H') ?_ t.args.length _ ?_
      · rintro k st ⟨tm, H', i, w, rfl, rfl, hi, hh, hc, t2, t3, t5, t6, gp', gq', hx'⟩
        have q1 := row6 gp'
        have q2 := row6 gq'
        by_cases hlt : i < t.args.length
        · by_cases h0 : w = 0
          · have hh0 : headZ t t' = 0 := by rcases hh with h | h; exact h; rw [h]; exact h0
            have hlt' : i < t'.args.length := by rw [← head_len hh0]; exact hlt
            obtain ⟨b, o, a1, c1, rfl, hld, hr1⟩ := rl.el hlt
            obtain ⟨b', o', a2, c2, rfl, hld', hr2⟩ := rl'.el hlt'
            have hld1 := hx'.load hw hld
            have hld2 := hx'.load hw hld'
            repeat' (first | refine EvC.seq ?_ | refine EvC.scope ?_ | refine EvC.block ?_ | (refine EvC.skip ?_; try simp only [thenC_normal]) | (refine EvC.exit ?_) | (refine EvC.ret ?_; try simp only [thenC_ret, inBlock_ret]) | (refine EvC.reg ?_; simp (config := { maxSteps := 2000000 }) (disch := first | omega | rfl) only [EL_cons, EL_nil, EL_guard, LX_val, LG_tt, dop_move, dop_pick, dPick_bool, dop_load, dop_fieldAddr, dop_bin, dBin_lss, ev_const, ev_tmp, Tr.get_put, put_some, Nat.reduceEqDiff, Option.getD_some, Nat.zero_add, if_true, if_false, dload1_some, thenC_normal, guardOf_eq, guardGet_some, List.getElem?_cons_succ, List.getElem?_cons_zero, dBin_eql, dop_len, fa26_5, ld24, ln24, t2, t5, t6, q1, decl hlt, ieq_t h0]) | (refine EvC.drw (id := 18) [([(0, 0), (1, 0), (2, 0), (3, 0), (4, 0), (5, 0), (6, 0), (7, 0), (8, 0), (9, 0)], some 10), ([(11, 1)], none)] ?_ ?_; kernel_rfl; simp (config := { maxSteps := 2000000 }) (disch := first | omega | rfl) only [dop_move, dop_load, dop_fieldAddr, dop_indexAddr, ev_tmp, Tr.get_put, put_some, Nat.reduceEqDiff, Option.getD_some, Nat.reduceAdd, Nat.zero_add, reduceCtorEq, if_true, if_false, dloadA_some, dload1_some, List.take_zero, List.length_cons, List.length_nil, List.map_cons, List.map_nil, and_self, true_and, thenC_normal, inBlock_normal, List.getElem?_cons_succ, List.getElem?_cons_zero, fa26_5, ld24, ia24, ld26, cl19, t2, t3, t6, q1, q2, hld1, hld2, ES_some, STG_op, STG_eff, SOP_none, SGO_read, SRD_val, SEF_none, SLK_call, isAlloc, isRead, or_true, true_and, sameOn_nil, Nat.sub_self, reduceCtorEq, load_bump, List.size_toArray, and_self]) | (refine EvC.condT ?_ ?_; simp (config := { maxSteps := 2000000 }) (disch := first | omega | rfl) only [ev_tmp, Tr.get_put, Nat.reduceEqDiff, Option.getD_some, if_true, if_false]; refine EvC_go ?_))
            have hb := hx'.bump 12
            have hs := args_size (List.getElem?_eq_getElem hlt)
            refine (ih (t := t.args[i]) (t' := t'.args[i]) (by omega) (hr1.mono hb hw) (hr2.mono hb hw) (hn.args _ (List.getElem_mem _)) (hn'.args _ (List.getElem_mem _)) hb.wf).mono ?_
            rintro v H4 ⟨rfl, hx4⟩
            have hx5 := hb.trans hx4
            have hm := rl.max
            repeat' (first | refine EvC.seq ?_ | refine EvC.scope ?_ | refine EvC.block ?_ | (refine EvC.skip ?_) | (refine EvC.exit ?_) | (refine EvC.ret ?_; try simp only [thenC_ret, inBlock_ret]) | (refine EvC.reg ?_; simp (config := { maxSteps := 2000000 }) (disch := first | omega | rfl) only [EL_cons, EL_nil, LX_val, dop_assign, dop_move, dop_bin, dBin_add, ev_const, ev_tmp, Tr.get_put, put_some, Nat.reduceEqDiff, Option.getD_some, if_true, if_false, thenC_normal, t6, wrap_i64]) | (refine SCK_go ?_; simp (config := { maxSteps := 2000000 }) (disch := first | omega | rfl) only [dop_assign, ev_tmp, Tr.get_put, put_some, Nat.reduceEqDiff, Option.getD_some, Nat.zero_add, if_true, if_false, List.take_zero, List.length_cons, List.length_nil, and_self, true_and, List.getElem?_cons_succ, List.getElem?_cons_zero, ES_none, STG_op, STG_end, SOP_none, SGO_read, SRD_val, isAlloc, isRead, or_true, true_and, sameOn_nil, Nat.sub_self, and_self]))
            refine ⟨t.args.length - (i + 1), by omega, _, _, i + 1, ordT t.args[i] t'.args[i], rfl, rfl, by omega, .inl hh0, fun _ => ?_, (by first | (simp only [Tr.get_put, Nat.reduceEqDiff, if_false, t2]; rfl) | simp only [Tr.get_put, Nat.reduceEqDiff, if_false, t2]), (by first | (simp only [Tr.get_put, Nat.reduceEqDiff, if_false, t3]; rfl) | simp only [Tr.get_put, Nat.reduceEqDiff, if_false, t3]), (by first | (simp only [Tr.get_put, Nat.reduceEqDiff, if_true, if_false]; rfl) | simp only [Tr.get_put, Nat.reduceEqDiff, if_true, if_false]), (by first | (simp only [Tr.get_put, Nat.reduceEqDiff, if_true, if_false, Option.some.injEq]; rfl) | simp only []), hx4.get hb.wf gp', hx4.get hb.wf gq', hx5⟩
            rw [← hc hh0, if_pos h0, ordL_drop (List.getElem?_eq_getElem hlt) (List.getElem?_eq_getElem hlt')]
          · repeat' (first | refine EvC.seq ?_ | refine EvC.scope ?_ | refine EvC.block ?_ | (refine EvC.skip ?_) | (refine EvC.exit ?_; try simp only [if_true, thenC_normal, inBlock_exit, thenC_exit]) | (refine EvC.ret ?_; try simp only [thenC_ret, inBlock_ret]) | (refine EvC.reg ?_; simp (config := { maxSteps := 2000000 }) (disch := first | omega | rfl) only [EL_cons, EL_nil, EL_guard, LX_val, LG_tt, dop_assign, dop_move, dop_pick, dPick_bool, dop_load, dop_fieldAddr, dop_bin, dBin_lss, ev_const, ev_tmp, Tr.get_put, put_some, Nat.reduceEqDiff, Option.getD_some, Nat.zero_add, if_true, if_false, dload1_some, thenC_normal, guardOf_eq, guardGet_some, List.getElem?_cons_succ, List.getElem?_cons_zero, dBin_eql, dop_len, fa26_5, ld24, ln24, t2, t5, t6, q1, decl hlt, ieq_f h0]) | (refine EvC.condT ?_ ?_; simp (config := { maxSteps := 2000000 }) (disch := first | omega | rfl) only [ev_tmp, Tr.get_put, Nat.reduceEqDiff, Option.getD_some, if_true, if_false]; refine EvC_go ?_) | (refine EvC.condF ?_ ?_; simp (config := { maxSteps := 2000000 }) (disch := first | omega | rfl) only [ev_tmp, Tr.get_put, Nat.reduceEqDiff, Option.getD_some, if_true, if_false]; refine EvC_go ?_))
            refine leave_one rfl (by first | (simp only [Tr.get_put, Nat.reduceEqDiff, if_true, if_false, Option.some.injEq]; rfl) | simp only []) ⟨?_, hx'⟩
            rw [fin]
            by_cases hh0 : headZ t t' = 0
            · rw [if_pos hh0, ← hc hh0, if_neg h0]
            · rw [if_neg hh0]; rcases hh with h | h
              · exact absurd h hh0
              · rw [h]
        · repeat' (first | refine EvC.seq ?_ | refine EvC.scope ?_ | refine EvC.block ?_ | (refine EvC.skip ?_) | (refine EvC.exit ?_; try simp only [if_true, thenC_normal, inBlock_exit, thenC_exit]) | (refine EvC.ret ?_; try simp only [thenC_ret, inBlock_ret]) | (refine EvC.reg ?_; simp (config := { maxSteps := 2000000 }) (disch := first | omega | rfl) only [EL_cons, EL_nil, EL_guard, LX_val, LG_tf, dop_assign, dop_move, dop_pick, dPick_bool, dop_load, dop_fieldAddr, dop_bin, dBin_lss, ev_const, ev_tmp, Tr.get_put, put_some, Nat.reduceEqDiff, Option.getD_some, Nat.zero_add, if_true, if_false, dload1_some, thenC_normal, guardOf_eq, guardGet_some, List.getElem?_cons_succ, List.getElem?_cons_zero, dop_len, fa26_5, ld24, ln24, t2, t5, t6, q1, decn hlt, Bool.false_eq_true]) | (refine EvC.condT ?_ ?_; simp (config := { maxSteps := 2000000 }) (disch := first | omega | rfl) only [ev_tmp, Tr.get_put, Nat.reduceEqDiff, Option.getD_some, if_true, if_false]; refine EvC_go ?_) | (refine EvC.condF ?_ ?_; simp (config := { maxSteps := 2000000 }) (disch := first | omega | rfl) only [ev_tmp, Tr.get_put, Nat.reduceEqDiff, Option.getD_some, if_true, if_false]; refine EvC_go ?_))
          refine leave_one rfl (by first | (simp only [Tr.get_put, Nat.reduceEqDiff, if_true, if_false, Option.some.injEq]; rfl) | simp only []) ⟨?_, hx'⟩
          rw [fin]
          by_cases hh0 : headZ t t' = 0
          · rw [if_pos hh0, ← hc hh0, List.drop_of_length_le (by omega)]
            by_cases h0 : w = 0
            · rw [if_pos h0, ordL, h0]
            · rw [if_neg h0]
          · rw [if_neg hh0]; rcases hh with h | h
            · exact absurd h hh0
            · rw [h]
      · refine ⟨_, _, 0, headZ t t', rfl, rfl, by omega, .inr rfl, fun h => by rw [if_pos h]; rfl, (by first | (simp only [Tr.get_put, Nat.reduceEqDiff, reduceCtorEq, if_true, if_false]; rfl) | simp only [Tr.get_put, Nat.reduceEqDiff, reduceCtorEq, if_true, if_false]), (by first | (simp only [Tr.get_put, Nat.reduceEqDiff, reduceCtorEq, if_true, if_false]; rfl) | simp only [Tr.get_put, Nat.reduceEqDiff, reduceCtorEq, if_true, if_false]), by rw [hz]; first | (simp only [Tr.get_put, Nat.reduceEqDiff, reduceCtorEq, if_true, if_false]; rfl) | simp only [Tr.get_put, Nat.reduceEqDiff, reduceCtorEq, if_true, if_false], (by first | (simp only [Tr.get_put, Nat.reduceEqDiff, reduceCtorEq, if_true, if_false, Option.some.injEq]; rfl) | simp only []), gp, gq, hx2⟩
    · have hl' : (t.args.length : Int) ≠ t'.args.length := by omega
      repeat' (first | refine EvC.seq ?_ | refine EvC.scope ?_ | refine EvC.block ?_ | (refine EvC.skip ?_; try simp only [thenC_normal, inBlock_normal]) | (refine EvC.exit ?_) | (refine EvC.ret ?_; try simp only [thenC_ret, inBlock_ret]) | (refine EvC.reg ?_; simp (config := { maxSteps := 2000000 }) (disch := first | omega | rfl) only [EL_cons, EL_nil, LX_val, LX_call, dop_assign, dop_load, dop_fieldAddr, dop_bin, ev_const, ev_tmp, Tr.get_put, put_some, Nat.reduceEqDiff, Option.getD_some, Nat.add_zero, Nat.zero_add, reduceCtorEq, if_true, if_false, dload1_some, List.map_cons, List.map_nil, thenC_normal, dBin_eql, dBin_neq, dop_len, fa26_0, ld3, cl55, fa26_5, ld24, ln24, ine_f hk, q1, q2, ieq_f k1, ieq_f k3, ieq_f k4, ieq_f k2, ine_t hl']) | (refine EvC.condT ?_ ?_; simp (config := { maxSteps := 2000000 }) (disch := first | omega | rfl) only [ev_tmp, Tr.get_put, Nat.reduceEqDiff, Option.getD_some, reduceCtorEq, if_true, if_false]; refine EvC_go ?_) | (refine EvC.condF ?_ ?_; simp (config := { maxSteps := 2000000 }) (disch := first | omega | rfl) only [ev_tmp, Tr.get_put, Nat.reduceEqDiff, Option.getD_some, reduceCtorEq, if_true, if_false]; refine EvC_go ?_))
      refine sign_ev.mono ?_
      rintro v H1 ⟨rfl, rfl⟩
      repeat' (first | refine EvC.seq ?_ | refine EvC.scope ?_ | refine EvC.block ?_ | (refine EvC.skip ?_) | (refine EvC.exit ?_) | (refine EvC.ret ?_; try simp only [thenC_ret, inBlock_ret]))
      refine leave_one rfl (by first | (simp only [Tr.get_put, Nat.reduceEqDiff, reduceCtorEq, if_true, if_false, Option.some.injEq]; rfl) | simp only []) ⟨?_, hx2⟩
      have h0 : cmpZ (t.args.length : Int) t'.args.length ≠ 0 := fun h => hl' (cmpZ_zero.1 h)
      have hz : headZ t t' = cmpZ t.args.length t'.args.length := by unfold headZ; rw [orZ, if_neg h0]
      rw [fin, hz, if_neg h0]
  · repeat' (first | refine EvC.seq ?_ | refine EvC.scope ?_ | refine EvC.block ?_ | (refine EvC.skip ?_) | (refine EvC.exit ?_) | (refine EvC.ret ?_; try simp only [thenC_ret, inBlock_ret]) | (refine EvC.reg ?_; simp (config := { maxSteps := 2000000 }) (disch := first | omega | rfl) only [EL_cons, EL_nil, LX_val, dop_load, dop_fieldAddr, dop_bin, ev_tmp, Tr.get_put, put_some, Nat.reduceEqDiff, Option.getD_some, Nat.add_zero, reduceCtorEq, if_true, if_false, dload1_some, thenC_normal, dBin_neq, fa26_0, ld3, ine_t hk, q1, q2]) | (refine EvC.drw (id := 2) [([(0, 0), (1, 0)], some 2), ([(3, 0), (4, 0)], some 5), ([], some 6), ([(7, 3)], none)] ?_ ?_; kernel_rfl; simp (config := { maxSteps := 2000000 }) (disch := first | omega | rfl) only [dop_load, dop_fieldAddr, ev_tmp, Tr.get_put, put_some, Nat.reduceEqDiff, Option.getD_some, Nat.reduceAdd, Nat.add_zero, Nat.zero_add, reduceCtorEq, if_true, if_false, dload1_some, List.take_zero, List.length_cons, List.length_nil, List.map_cons, List.map_nil, and_self, true_and, thenC_normal, List.getElem?_cons_succ, List.getElem?_cons_zero, fa26_0, ld3, cl56, q1, ES_some, STG_op, STG_eff, SOP_none, SGO_read, SRD_val, SEF_none, SLK_call, isAlloc, isRead, or_true, true_and, sameOn_nil, Nat.sub_self, reduceCtorEq, load_bump, List.size_toArray, and_self]) | (refine EvC.condT ?_ ?_; simp (config := { maxSteps := 2000000 }) (disch := first | omega | rfl) only [ev_tmp, Tr.get_put, Nat.reduceEqDiff, Option.getD_some, reduceCtorEq, if_true, if_false]; refine EvC_go ?_))
    refine rankR_ev.mono ?_
    rintro v H1 ⟨rfl, rfl⟩
    repeat' (first | refine EvC.seq ?_ | refine EvC.scope ?_ | refine EvC.block ?_ | (refine EvC.skip ?_) | (refine EvC.exit ?_) | (refine EvC.ret ?_; try simp only [thenC_ret, inBlock_ret]) | (refine SCK_go ?_; simp (config := { maxSteps := 2000000 }) (disch := first | omega | rfl) only [dop_load, dop_fieldAddr, ev_tmp, Tr.get_put, put_some, Nat.reduceEqDiff, Option.getD_some, Nat.add_zero, Nat.zero_add, Bool.and_self, reduceCtorEq, if_true, if_false, dload1_some, List.take_succ_cons, List.take_zero, List.length_cons, List.length_nil, Nat.beq_refl, List.map_cons, List.map_nil, and_self, true_and, List.getElem?_cons_succ, List.getElem?_cons_zero, fa26_0, ld3, cl56, q2, ES_some, STG_op, STG_eff, SOP_none, SGO_read, SRD_val, SEF_none, SLK_call, isAlloc, isRead, or_true, true_and, sameOn_nil, Nat.sub_zero, reduceCtorEq, load_bump, sameOn_cons, sameK_val, and_self, Bool.and_self, vq_int, vq_ptr]))
    refine rankR_ev.mono ?_
    rintro v H2 ⟨rfl, rfl⟩
    repeat' (first | refine EvC.seq ?_ | refine EvC.scope ?_ | refine EvC.block ?_ | (refine EvC.skip ?_) | (refine EvC.exit ?_) | (refine EvC.ret ?_; try simp only [thenC_ret, inBlock_ret]) | (refine SCK_go ?_; simp (config := { maxSteps := 2000000 }) (disch := first | omega | rfl) only [ev_tmp, Tr.get_put, put_some, Nat.reduceEqDiff, Option.getD_some, reduceCtorEq, if_true, if_false, List.map_cons, List.map_nil, List.getElem?_cons_succ, List.getElem?_cons_zero, cl55, ES_some, STG_eff, SEF_none, SLK_call, reduceCtorEq]))
    refine sign_ev.mono ?_
    rintro v H3 ⟨rfl, rfl⟩
    repeat' (first | refine EvC.seq ?_ | refine EvC.scope ?_ | refine EvC.block ?_ | (refine EvC.skip ?_) | (refine EvC.exit ?_) | (refine EvC.ret ?_; try simp only [thenC_ret, inBlock_ret]) | (refine SCK_go ?_; simp (config := { maxSteps := 2000000 }) (disch := first | omega | rfl) only [dop_assign, ev_tmp, Tr.get_put, put_some, Nat.reduceEqDiff, Option.getD_some, Nat.reduceAdd, Nat.zero_add, reduceCtorEq, if_true, if_false, List.take_zero, List.length_cons, List.length_nil, and_self, true_and, List.getElem?_cons_succ, List.getElem?_cons_zero, ES_none, STG_op, STG_end, SOP_none, SGO_read, SRD_val, isAlloc, isRead, or_true, true_and, sameOn_nil, Nat.sub_self, reduceCtorEq, and_self]))
    exact leave_one rfl (by first | (simp only [Tr.get_put, Nat.reduceEqDiff, reduceCtorEq, if_true, if_false, Option.some.injEq]; rfl) | simp only []) ⟨by rw [ordT_eq, if_pos hk], hx2.bump _⟩

end Go.Proofs.YtlllbkjiadcloaaDoor.hb
end

-- Z13
section
/- Lists of terms that are checked; two terms compared. -/
namespace Go.Proofs.YtlllbkjiadcloaaDoor.hb
open Go Go.RowKit Go.Hb
variable {ok : Ok}
set_option maxRecDepth 10000
attribute [local irreducible] LX LG EL STG SOP SGO SGD SAL SRD SEF SEG SLK SCK ES
-- @veq
/-- what is wrong with the first that is -/
def chkL : List Tm → Int
  | [] => 0
  | t :: l => if checkS t = 0 then chkL l else checkS t
theorem chkL_drop {l : List Tm} {i : Nat} (h : i < l.length) : chkL (l.drop i) = if checkS l[i] = 0 then chkL (l.drop (i + 1)) else checkS l[i] := by
  rw [List.drop_eq_getElem_cons h, chkL]
theorem chkL_zero : ∀ {l : List Tm}, chkL l = 0 → ∀ t ∈ l, checkS t = 0
  | [], _, t, h => by simp at h
  | u :: l, h, t, ht => by
    rw [chkL] at h
    split at h
    · rename_i h0
      rcases List.mem_cons.1 ht with rfl | ht
      · exact h0
      · exact chkL_zero h t ht
    · rename_i h0; exact absurd h h0

-- term.checks
theorem checks_ev {l : List Tm} {a : Option Addr} {c : Nat} {cells : Nat → List Value} {H : Heap} (rl : RepL H l a c cells) (hw : H.wf) :
    EvF Tryd.prog okT 52 [.slice a l.length c] H fun v H' => v = .int .i64 (chkL l) ∧ HX H H' := by
  have hm := rl.max
  refine EvF.enter rfl Tryd.func52 (by decide) rfl ?_
  repeat' (first | refine EvC.seq ?_ | refine EvC.scope ?_ | refine EvC.block ?_ | (refine EvC.skip ?_) | (refine EvC.exit ?_) | (refine EvC.ret ?_; try simp only [thenC_ret, inBlock_ret]) | (refine EvC.reg ?_; simp (config := { maxSteps := 2000000 }) (disch := first | omega | rfl) only [initTm, EL_cons, EL_nil, LX_val, dop_assign, dop_move, ev_const, ev_tmp, Tr.get_put, put_some, Nat.reduceEqDiff, Option.getD_some, reduceCtorEq, if_true, if_false, thenC_normal, dop_len, ln24]))
  refine EvC.loop (fun k st => ∃ tm H' i, st = ⟨tm, [], H'⟩ ∧ k = l.length - i ∧ i ≤ l.length ∧ chkL (l.drop i) = chkL l ∧ tm.get 6 = some (.slice a l.length c) ∧ tm.get 7 = some (.int .i64 l.length) ∧ tm.get 8 = some (.int .i64 (i : Nat)) ∧ HX H H') ?_ l.length _ ?_
  · rintro k st ⟨tm, H', i, rfl, rfl, hi, hc, g6, g7, g8, hx⟩
    by_cases hlt : i < l.length
    · obtain ⟨b, o, a1, c1, rfl, hld, hr⟩ := rl.el hlt
      have hld1 := hx.load hw hld
      repeat' (first | refine EvC.seq ?_ | refine EvC.scope ?_ | refine EvC.block ?_ | (refine EvC.skip ?_; try simp only [thenC_normal]) | (refine EvC.exit ?_) | (refine EvC.ret ?_; try simp only [thenC_ret, inBlock_ret]) | (refine EvC.reg ?_; simp (config := { maxSteps := 2000000 }) (disch := first | omega | rfl) only [EL_cons, EL_nil, LX_val, LX_call, dop_assign, dop_load, dop_store, dop_indexAddr, dop_bin, dBin_lss, dop_alloc, dAlloc, ev_tmp, Tr.get_put, put_some, put_none, Nat.reduceEqDiff, Option.getD_some, Nat.reduceAdd, Nat.zero_add, List.all_cons, List.all_nil, one, Bool.and_self, if_true, if_false, load_new, load_put, get_new, cutC, dloadA_some, List.drop_succ_cons, List.drop_zero, List.take_succ_cons, List.take_zero, List.length_cons, List.length_nil, Nat.beq_refl, List.map_cons, List.map_nil, dStoreIf_true, dStoreB_row, splice_zero, List.append_nil, Nat.le_refl, and_self, List.drop_nil, thenC_normal, ia24, ld26, zr26, st26, cl15, g6, g7, g8, decl hlt, hld1]) | (refine EvC.condT ?_ ?_; simp (config := { maxSteps := 2000000 }) (disch := first | omega | rfl) only [ev_tmp, Tr.get_put, Option.getD_some, if_true]; refine EvC_go ?_))
      have hx2 := (hx.new (some (.row [.int .i64 0, .string ByteArray.empty, .string ByteArray.empty, .int .u64 0, .int .i64 0, .slice none 0 0] 26))).put (i := H'.next) hx.next (Nat.lt_succ_self _) (some (.row (six l[i] a1 c1) 26))
      refine (check_tells _ _ _ (hr.mono hx2 hw) hx2.wf).mono ?_
      rintro v H3 ⟨rfl, hx3⟩
      by_cases h0 : checkS l[i] = 0
      · repeat' (first | refine EvC.seq ?_ | refine EvC.scope ?_ | refine EvC.block ?_ | (refine EvC.skip ?_; try simp only [thenC_normal, inBlock_normal]) | (refine EvC.exit ?_) | (refine EvC.ret ?_; try simp only [thenC_ret, inBlock_ret]) | (refine EvC.reg ?_; simp (config := { maxSteps := 2000000 }) (disch := first | omega | rfl) only [EL_cons, EL_nil, LX_val, dop_move, dop_bin, dBin_add, ev_const, ev_tmp, Tr.get_put, put_some, Nat.reduceEqDiff, Option.getD_some, if_true, if_false, thenC_normal, dBin_neq, g8, ine_f h0, wrap_i64]) | (refine EvC.condT ?_ ?_; simp (config := { maxSteps := 2000000 }) (disch := first | omega | rfl) only [ev_tmp, Tr.get_put, Nat.reduceEqDiff, Option.getD_some, if_true, if_false]; refine EvC_go ?_) | (refine EvC.condF ?_ ?_; simp (config := { maxSteps := 2000000 }) (disch := first | omega | rfl) only [ev_tmp, Tr.get_put, Nat.reduceEqDiff, Option.getD_some, if_true, if_false]; refine EvC_go ?_))
        exact ⟨l.length - (i + 1), by omega, _, _, i + 1, rfl, rfl, by omega, by rw [← hc, chkL_drop hlt, if_pos h0], (by first | (simp only [Tr.get_put, Nat.reduceEqDiff, if_false, g6]; rfl) | simp only [Tr.get_put, Nat.reduceEqDiff, if_false, g6]), (by first | (simp only [Tr.get_put, Nat.reduceEqDiff, if_false, g7]; rfl) | simp only [Tr.get_put, Nat.reduceEqDiff, if_false, g7]), (by first | (simp only [Tr.get_put, Nat.reduceEqDiff, if_true, if_false, Option.some.injEq]; rfl) | simp only []), hx2.trans hx3⟩
      · repeat' (first | refine EvC.seq ?_ | refine EvC.scope ?_ | refine EvC.block ?_ | (refine EvC.skip ?_) | (refine EvC.exit ?_) | (refine EvC.ret ?_; try simp only [thenC_ret, inBlock_ret]) | (refine EvC.reg ?_; simp (config := { maxSteps := 2000000 }) (disch := first | omega | rfl) only [EL_cons, EL_nil, LX_val, dop_assign, dop_move, dop_bin, ev_const, ev_tmp, Tr.get_put, put_some, Nat.reduceEqDiff, Option.getD_some, if_true, if_false, thenC_normal, dBin_neq, ine_t h0]) | (refine EvC.condT ?_ ?_; simp (config := { maxSteps := 2000000 }) (disch := first | omega | rfl) only [ev_tmp, Tr.get_put, Nat.reduceEqDiff, Option.getD_some, if_true, if_false]; refine EvC_go ?_))
        exact leave_one rfl (by first | (simp only [Tr.get_put, Nat.reduceEqDiff, if_true, if_false, Option.some.injEq]; rfl) | simp only []) ⟨by rw [← hc, chkL_drop hlt, if_neg h0], hx2.trans hx3⟩
    · repeat' (first | refine EvC.seq ?_ | refine EvC.scope ?_ | refine EvC.block ?_ | (refine EvC.skip ?_) | (refine EvC.exit ?_; try simp only [if_true, thenC_normal, inBlock_exit, thenC_exit]) | (refine EvC.ret ?_; try simp only [thenC_ret, inBlock_ret]) | (refine EvC.reg ?_; simp (config := { maxSteps := 2000000 }) (disch := first | omega | rfl) only [EL_cons, EL_nil, LX_val, dop_assign, dop_bin, dBin_lss, ev_const, ev_tmp, put_some, Option.getD_some, thenC_normal, g7, g8, decn hlt]) | (refine EvC.condT ?_ ?_; simp (config := { maxSteps := 2000000 }) (disch := first | omega | rfl) only [ev_tmp, Tr.get_put, Option.getD_some, if_true]; refine EvC_go ?_) | (refine EvC.condF ?_ ?_; simp (config := { maxSteps := 2000000 }) (disch := first | omega | rfl) only [ev_tmp, Tr.get_put, Option.getD_some, if_true]; refine EvC_go ?_))
      exact leave_one rfl (by first | (simp only [Tr.get_put, Nat.reduceEqDiff, if_true, if_false, Option.some.injEq]; rfl) | simp only []) ⟨by rw [← hc, List.drop_of_length_le (by omega), chkL], hx⟩
  · exact ⟨_, _, 0, rfl, rfl, by omega, rfl, (by first | (simp only [Tr.get_put, Nat.reduceEqDiff, reduceCtorEq, if_true, if_false]; rfl) | simp only [Tr.get_put, Nat.reduceEqDiff, reduceCtorEq, if_true, if_false]), (by first | (simp only [Tr.get_put, Nat.reduceEqDiff, reduceCtorEq, if_true, if_false]; rfl) | simp only [Tr.get_put, Nat.reduceEqDiff, reduceCtorEq, if_true, if_false]), (by first | (simp only [Tr.get_put, Nat.reduceEqDiff, reduceCtorEq, if_true, if_false, Option.some.injEq]; rfl) | simp only []), HX.refl hw⟩

-- hornbeamref02.Checks
theorem checksR_ev {l : List Tm} {a : Option Addr} {c : Nat} {cells : Nat → List Value} {H : Heap} (rl : RepL H l a c cells) (hw : H.wf) :
    EvF Tryd.prog okT 54 [.slice a l.length c] H fun v H' => v = .int .i64 (chkL l) ∧ HX H H' := by
  have hm := rl.max
  refine EvF.enter rfl Tryd.func54 (by decide) rfl ?_
  repeat' (first | refine EvC.seq ?_ | refine EvC.scope ?_ | refine EvC.block ?_ | (refine EvC.skip ?_) | (refine EvC.exit ?_) | (refine EvC.ret ?_; try simp only [thenC_ret, inBlock_ret]) | (refine EvC.reg ?_; simp (config := { maxSteps := 2000000 }) (disch := first | omega | rfl) only [initTm, EL_cons, EL_nil, LX_val, dop_assign, ev_const, put_some, thenC_normal]))
  refine EvC.loop (fun k st => ∃ tm H' i, st = ⟨tm, [], H'⟩ ∧ k = l.length - i ∧ i ≤ l.length ∧ chkL (l.drop i) = chkL l ∧ tm.get 0 = some (.slice a l.length c) ∧ tm.get 3 = some (.int .i64 (i : Nat)) ∧ HX H H') ?_ l.length _ ?_
  · rintro k st ⟨tm, H', i, rfl, rfl, hi, hc, g6, g8, hx⟩
    by_cases hlt : i < l.length
    · obtain ⟨b, o, a1, c1, rfl, hld, hr⟩ := rl.el hlt
      have hld1 := hx.load hw hld
      repeat' (first | refine EvC.seq ?_ | refine EvC.scope ?_ | refine EvC.block ?_ | (refine EvC.skip ?_; try simp only [thenC_normal]) | (refine EvC.exit ?_) | (refine EvC.ret ?_; try simp only [thenC_ret, inBlock_ret]) | (refine EvC.reg ?_; simp (config := { maxSteps := 2000000 }) (disch := first | omega | rfl) only [EL_cons, EL_nil, LX_val, LX_call, dop_assign, dop_move, dop_load, dop_indexAddr, dop_bin, dBin_lss, ev_tmp, Tr.get_put, put_some, Nat.reduceEqDiff, Option.getD_some, reduceCtorEq, if_true, if_false, dloadA_some, List.map_cons, List.map_nil, thenC_normal, dop_len, ln24, ia24, ld26, cl16, g6, g8, decl hlt, hld1]) | (refine EvC.condT ?_ ?_; simp (config := { maxSteps := 2000000 }) (disch := first | omega | rfl) only [ev_tmp, Tr.get_put, Nat.reduceEqDiff, Option.getD_some, if_true, if_false]; refine EvC_go ?_))
      refine (checkR_tells _ _ _ (hr.mono hx hw) hx.wf).mono ?_
      rintro v H3 ⟨rfl, hx3⟩
      by_cases h0 : checkS l[i] = 0
      · repeat' (first | refine EvC.seq ?_ | refine EvC.scope ?_ | refine EvC.block ?_ | (refine EvC.skip ?_; try simp only [thenC_normal, inBlock_normal]) | (refine EvC.exit ?_) | (refine EvC.ret ?_; try simp only [thenC_ret, inBlock_ret]) | (refine EvC.reg ?_; simp (config := { maxSteps := 2000000 }) (disch := first | omega | rfl) only [EL_cons, EL_nil, LX_val, dop_assign, dop_move, dop_bin, dBin_add, ev_const, ev_tmp, Tr.get_put, put_some, Nat.reduceEqDiff, Option.getD_some, if_true, if_false, thenC_normal, dBin_neq, g8, ine_f h0, wrap_i64]) | (refine EvC.condT ?_ ?_; simp (config := { maxSteps := 2000000 }) (disch := first | omega | rfl) only [ev_tmp, Tr.get_put, Nat.reduceEqDiff, Option.getD_some, if_true, if_false]; refine EvC_go ?_) | (refine EvC.condF ?_ ?_; simp (config := { maxSteps := 2000000 }) (disch := first | omega | rfl) only [ev_tmp, Tr.get_put, Nat.reduceEqDiff, Option.getD_some, if_true, if_false]; refine EvC_go ?_))
        exact ⟨l.length - (i + 1), by omega, _, _, i + 1, rfl, rfl, by omega, by rw [← hc, chkL_drop hlt, if_pos h0], (by first | (simp only [Tr.get_put, reduceCtorEq, if_false, g6]; rfl) | simp only [Tr.get_put, reduceCtorEq, if_false, g6]), (by first | (simp only [Tr.get_put, Nat.reduceEqDiff, if_true, if_false, Option.some.injEq]; rfl) | simp only []), hx.trans hx3⟩
      · repeat' (first | refine EvC.seq ?_ | refine EvC.scope ?_ | refine EvC.block ?_ | (refine EvC.skip ?_) | (refine EvC.exit ?_) | (refine EvC.ret ?_; try simp only [thenC_ret, inBlock_ret]) | (refine EvC.reg ?_; simp (config := { maxSteps := 2000000 }) (disch := first | omega | rfl) only [EL_cons, EL_nil, LX_val, dop_assign, dop_move, dop_bin, ev_const, ev_tmp, Tr.get_put, put_some, Nat.reduceEqDiff, Option.getD_some, if_true, if_false, thenC_normal, dBin_neq, ine_t h0]) | (refine EvC.condT ?_ ?_; simp (config := { maxSteps := 2000000 }) (disch := first | omega | rfl) only [ev_tmp, Tr.get_put, Nat.reduceEqDiff, Option.getD_some, if_true, if_false]; refine EvC_go ?_))
        exact leave_one rfl (by first | (simp only [Tr.get_put, Nat.reduceEqDiff, if_true, if_false, Option.some.injEq]; rfl) | simp only []) ⟨by rw [← hc, chkL_drop hlt, if_neg h0], hx.trans hx3⟩
    · repeat' (first | refine EvC.seq ?_ | refine EvC.scope ?_ | refine EvC.block ?_ | (refine EvC.skip ?_) | (refine EvC.exit ?_; try simp only [if_true, thenC_normal, inBlock_exit, thenC_exit]) | (refine EvC.ret ?_; try simp only [thenC_ret, inBlock_ret]) | (refine EvC.reg ?_; simp (config := { maxSteps := 2000000 }) (disch := first | omega | rfl) only [EL_cons, EL_nil, LX_val, dop_assign, dop_move, dop_bin, dBin_lss, ev_const, ev_tmp, Tr.get_put, put_some, Nat.reduceEqDiff, Option.getD_some, reduceCtorEq, if_true, if_false, thenC_normal, dop_len, ln24, g6, g8, decn hlt]) | (refine EvC.condT ?_ ?_; simp (config := { maxSteps := 2000000 }) (disch := first | omega | rfl) only [ev_tmp, Tr.get_put, Nat.reduceEqDiff, Option.getD_some, if_true, if_false]; refine EvC_go ?_) | (refine EvC.condF ?_ ?_; simp (config := { maxSteps := 2000000 }) (disch := first | omega | rfl) only [ev_tmp, Tr.get_put, Nat.reduceEqDiff, Option.getD_some, if_true, if_false]; refine EvC_go ?_))
      exact leave_one rfl (by first | (simp only [Tr.get_put, Nat.reduceEqDiff, if_true, if_false, Option.some.injEq]; rfl) | simp only []) ⟨by rw [← hc, List.drop_of_length_le (by omega), chkL], hx⟩
  · exact ⟨_, _, 0, rfl, rfl, by omega, rfl, (by first | (simp only [Tr.get_put, reduceCtorEq, if_true, if_false]; rfl) | simp only [Tr.get_put, reduceCtorEq, if_true, if_false]), (by first | (simp only [Tr.get_put, Nat.reduceEqDiff, reduceCtorEq, if_true, if_false, Option.some.injEq]; rfl) | simp only []), HX.refl hw⟩

-- hornbeamlaw02.first
theorem first_ev {l : List Tm} {a : Option Addr} {c : Nat} {cells : Nat → List Value} {H : Heap} (rl : RepL H l a c cells) (hw : H.wf) :
    EvF Tryd.prog okT 18 [.slice a l.length c] H fun v H' => v = .int .i64 (chkL l) ∧ HX H H' := by
  refine EvF.enter rfl Tryd.func18 (by decide) rfl ?_
  repeat' (first | refine EvC.seq ?_ | refine EvC.scope ?_ | refine EvC.block ?_ | (refine EvC.skip ?_) | (refine EvC.exit ?_) | (refine EvC.ret ?_; try simp only [thenC_ret, inBlock_ret]) | (refine EvC.reg ?_; simp (config := { maxSteps := 2000000 }) (disch := first | omega | rfl) only [initTm, EL_cons, EL_nil, LX_val, LX_call, dop_assign, dop_move, ev_const, ev_tmp, Tr.get_put, put_some, Nat.reduceEqDiff, Option.getD_some, reduceCtorEq, if_true, if_false, List.map_cons, List.map_nil, thenC_normal, cl54]))
  refine (checksR_ev rl hw).mono ?_
  rintro v H3 ⟨rfl, hx3⟩
  repeat' (first | refine EvC.seq ?_ | refine EvC.scope ?_ | refine EvC.block ?_ | (refine EvC.skip ?_) | (refine EvC.exit ?_) | (refine EvC.ret ?_; try simp only [thenC_ret, inBlock_ret]))
  exact leave_one rfl (by first | (simp only [Tr.get_put, Nat.reduceEqDiff, reduceCtorEq, if_true, if_false]; rfl) | simp only [Tr.get_put, Nat.reduceEqDiff, reduceCtorEq, if_true, if_false]) ⟨rfl, hx3⟩
end Go.Proofs.YtlllbkjiadcloaaDoor.hb
end

-- Z14
section
/- Terms that lie side by side in a row; two terms compared. -/
namespace Go.Hb
open Go Go.RowKit
theorem RepT.len {H : Heap} {t : Tm} {cs : List Value} (r : RepT H t cs) : cs.length = 6 := by obtain ⟨a, c, cells, rfl, -⟩ := r.six; rfl
theorem RepL.of_row {H : Heap} {l : List Tm} {css : Nat → List Value} {b c : Nat} {vs : List Value} {T : TypeId} (g : H.get b = some (.row vs T)) (hv : ∀ i, i < l.length → (vs.drop (i * 6)).take 6 = css i)
    (hr : ∀ i t, l[i]? = some t → RepT H t (css i)) (hl : l.length ≤ c) (hm : c ≤ maxLen) : RepL H l (some ⟨b, 0, none⟩) c css := by
  refine ⟨hl, hm, (fun h => by cases h), (fun i ad hi ha => ?_), hr⟩
  cases ha
  refine ⟨rfl, ?_⟩
  have hlen := (hr i l[i] (List.getElem?_eq_getElem hi)).len
  unfold Heap.load Heap.cells
  simp only [g, Nat.zero_add, hv i hi]
  rw [if_pos (by rw [Nat.beq_eq]; exact hlen)]
theorem RepL.two {H : Heap} {t t' : Tm} {cs cs' : List Value} {b : Nat} {T : TypeId} (r : RepT H t cs) (r' : RepT H t' cs') (g : H.get b = some (.row (cs ++ cs') T)) :
    RepL H [t, t'] (some ⟨b, 0, none⟩) 2 (fun i => if i = 0 then cs else cs') := by
  refine RepL.of_row g (fun i hi => ?_) (fun i u hu => ?_) (Nat.le_refl _) (by simp [maxLen])
  · have h1 := r.len
    have h2 := r'.len
    match i, hi with
    | 0, _ => simp [h1]
    | 1, _ => simp [h1, h2]; exact List.take_of_length_le (by omega)
  · match i, hu with
    | 0, hu => cases hu; exact r
    | 1, hu => cases hu; exact r'
theorem RepL.three {H : Heap} {t t' t2 : Tm} {cs cs' cs2 : List Value} {b : Nat} {T : TypeId} (r : RepT H t cs) (r' : RepT H t' cs') (r2 : RepT H t2 cs2) (g : H.get b = some (.row (cs ++ cs' ++ cs2) T)) :
    RepL H [t, t', t2] (some ⟨b, 0, none⟩) 3 (fun i => if i = 0 then cs else if i = 1 then cs' else cs2) := by
  refine RepL.of_row g (fun i hi => ?_) (fun i u hu => ?_) (Nat.le_refl _) (by simp [maxLen])
  · have h1 := r.len
    have h2 := r'.len
    have h3 := r2.len
    match i, hi with
    | 0, _ => simp [h1]
    | 1, _ => simp [h1, h2]
    | 2, _ =>
      have e : (cs ++ cs' ++ cs2).drop 12 = cs2 := by rw [show 12 = (cs ++ cs').length by simp [h1, h2], List.drop_left]
      show ((cs ++ cs' ++ cs2).drop 12).take 6 = _
      rw [e]; exact List.take_of_length_le (by omega)
  · match i, hu with
    | 0, hu => cases hu; exact r
    | 1, hu => cases hu; exact r'
    | 2, hu => cases hu; exact r2
end Go.Hb
namespace Go.Proofs.YtlllbkjiadcloaaDoor.hb
open Go Go.RowKit Go.Hb
variable {ok : Ok}
set_option maxRecDepth 10000
attribute [local irreducible] LX LG EL STG SOP SGO SGD SAL SRD SEF SEG SLK SCK ES
-- @veq
theorem six_two {t t' : Tm} {a a' : Option Addr} {c c' : Nat} {k k' n n' : Int} : six t a c ++ six t' a' c' = [.int .i64 t.kind, .string t.name, .string t.num, .int .u64 t.bits, .int .i64 t.var, .slice a t.args.length c, .int .i64 t'.kind, .string t'.name, .string t'.num, .int .u64 t'.bits, .int .i64 t'.var, .slice a' t'.args.length c'] := rfl

-- term.Compare
set_option maxHeartbeats 4000000 in
theorem compare_ev {t t' : Tm} {cs cs' : List Value} {H : Heap} (r : RepT H t cs) (r' : RepT H t' cs') (hw : H.wf) :
    EvF Tryd.prog okT 17 [.agg ⟨cs⟩, .agg ⟨cs'⟩] H fun v H' => v = .tuple #[.int .i64 (if chkL [t, t'] = 0 then ordT t t' else 0), .int .i64 (chkL [t, t'])] ∧ HX H H' := by
  have r0 := r; have r0' := r'
  obtain ⟨a, c, cells, rfl, b1, b2, b3, b4, b5, rl⟩ := r.six
  obtain ⟨a', c', cells', rfl, b1', b2', b3', b4', b5', rl'⟩ := r'.six
  refine EvF.enter rfl Tryd.func17 (by decide) rfl ?_
  (repeat refine EvC.seq ?_); refine EvC.reg ?_; simp (config := { maxSteps := 2000000 }) (disch := first | omega | rfl) only [initTm, EL_cons, EL_nil, LX_val, dop_box, dBox, dop_assign, ev_const, ev_tmp, Tr.get_put, put_some, Nat.reduceEqDiff, Option.getD_some, Nat.zero_add, Value.cells, List.all_cons, List.all_nil, one, Bool.and_self, reduceCtorEq, if_true, if_false, next_new, thenC_normal]
  obtain ⟨H2, e2, hx2, gp, gq, hnx, hw2⟩ := new2 hw (.row (six t a c) 26) (.row (six t' a' c') 26)
  simp only [e2]
  have q1 := row6 gp
  have q2 := row6 gq
  clear e2
  repeat' (first | refine EvC.seq ?_ | refine EvC.scope ?_ | refine EvC.block ?_ | (refine EvC.skip ?_) | (refine EvC.exit ?_) | (refine EvC.ret ?_; try simp only [thenC_ret, inBlock_ret]) | (refine EvC.reg ?_; simp (config := { maxSteps := 2000000 }) (disch := first | omega | rfl) only [EL_cons, EL_nil, LX_val, LX_call, dop_assign, dop_load, ev_tmp, Tr.get_put, put_some, Nat.reduceEqDiff, Option.getD_some, Nat.reduceAdd, Nat.zero_add, Value.cells, List.all_cons, List.all_nil, one, Bool.and_self, reduceCtorEq, if_true, if_false, dloadA_some, List.drop_succ_cons, List.drop_zero, List.length_cons, List.length_nil, List.map_cons, List.map_nil, splice_zero, splice_succ, List.cons_append, List.nil_append, List.append_nil, Nat.reduceLeDiff, Nat.le_refl, and_self, List.drop_nil, thenC_normal, List.getElem?_cons_succ, List.getElem?_cons_zero, layC, dop_buildSlice, dBs_true, ld26, bs24_2, cl52, q1, q2]))
  obtain ⟨H3, e3, hx3, g3, hn3, hw3⟩ := new1 hw2 (.row (six t a c ++ six t' a' c') 26)
  have e3' := e3
  simp only [six, List.cons_append, List.nil_append] at e3'
  simp only [e3']
  have hx23 := hx2.trans hx3
  refine (checks_ev (RepL.two (r0.mono hx23 hw) (r0'.mono hx23 hw) g3) hw3).mono ?_
  rintro v H4 ⟨rfl, hx4⟩
  have hx24 := hx23.trans hx4
  have q1 := row6 (hx4.get hw3 (hx3.get hw2 gp))
  have q2 := row6 (hx4.get hw3 (hx3.get hw2 gq))
  by_cases h0 : chkL [t, t'] = 0
  · repeat' (first | refine EvC.seq ?_ | refine EvC.scope ?_ | refine EvC.block ?_ | (refine EvC.skip ?_; try simp only [thenC_normal]) | (refine EvC.exit ?_) | (refine EvC.ret ?_; try simp only [thenC_ret, inBlock_ret]) | (refine EvC.reg ?_; simp (config := { maxSteps := 2000000 }) (disch := first | omega | rfl) only [EL_cons, EL_nil, LX_val, LX_call, dop_assign, dop_move, dop_load, dop_bin, ev_const, ev_tmp, Tr.get_put, put_some, Nat.reduceEqDiff, Option.getD_some, reduceCtorEq, if_true, if_false, dloadA_some, List.map_cons, List.map_nil, thenC_normal, dBin_neq, ld26, cl53, ine_f h0, q1, q2]) | (refine EvC.condT ?_ ?_; simp (config := { maxSteps := 2000000 }) (disch := first | omega | rfl) only [ev_tmp, Tr.get_put, Nat.reduceEqDiff, Option.getD_some, reduceCtorEq, if_true, if_false]; refine EvC_go ?_) | (refine EvC.condF ?_ ?_; simp (config := { maxSteps := 2000000 }) (disch := first | omega | rfl) only [ev_tmp, Tr.get_put, Nat.reduceEqDiff, Option.getD_some, reduceCtorEq, if_true, if_false]; refine EvC_go ?_))
    have hf := chkL_zero h0
    refine (order_ev (Nat.lt_succ_self _) (r0.mono hx24 hw) (r0'.mono hx24 hw) (check_zero.1 (hf t (by simp))).2 (check_zero.1 (hf t' (by simp))).2 hx24.wf).mono ?_
    rintro v H5 ⟨rfl, hx5⟩
    repeat' (first | refine EvC.seq ?_ | refine EvC.scope ?_ | refine EvC.block ?_ | (refine EvC.skip ?_) | (refine EvC.exit ?_) | (refine EvC.ret ?_; try simp only [thenC_ret, inBlock_ret]))
    exact leave_two rfl (by first | (simp only [Tr.get_put, Nat.reduceEqDiff, reduceCtorEq, if_true, if_false, Option.some.injEq]; rfl) | simp only []) (by first | (simp only [Tr.get_put, Nat.reduceEqDiff, reduceCtorEq, if_true, if_false, Option.some.injEq]; rfl) | simp only []) ⟨by rw [if_pos h0, h0], hx24.trans hx5⟩
  · repeat' (first | refine EvC.seq ?_ | refine EvC.scope ?_ | refine EvC.block ?_ | (refine EvC.skip ?_) | (refine EvC.exit ?_) | (refine EvC.ret ?_; try simp only [thenC_ret, inBlock_ret]) | (refine EvC.reg ?_; simp (config := { maxSteps := 2000000 }) (disch := first | omega | rfl) only [EL_cons, EL_nil, LX_val, dop_assign, dop_move, dop_bin, ev_const, ev_tmp, Tr.get_put, put_some, Nat.reduceEqDiff, Option.getD_some, reduceCtorEq, if_true, if_false, thenC_normal, dBin_neq, ine_t h0]) | (refine EvC.condT ?_ ?_; simp (config := { maxSteps := 2000000 }) (disch := first | omega | rfl) only [ev_tmp, Tr.get_put, Nat.reduceEqDiff, Option.getD_some, reduceCtorEq, if_true, if_false]; refine EvC_go ?_))
    exact leave_two rfl (by first | (simp only [Tr.get_put, Nat.reduceEqDiff, reduceCtorEq, if_true, if_false, Option.some.injEq]; rfl) | simp only []) (by first | (simp only [Tr.get_put, Nat.reduceEqDiff, reduceCtorEq, if_true, if_false, Option.some.injEq]; rfl) | simp only []) ⟨by rw [if_neg h0], hx24⟩
end Go.Proofs.YtlllbkjiadcloaaDoor.hb
end

-- Z16
section
/- Terms that are the same. -/
namespace Go.Proofs.YtlllbkjiadcloaaDoor.hb
open Go Go.RowKit Go.Hb
variable {ok : Ok}
set_option maxRecDepth 10000
attribute [local irreducible] LX LG EL STG SOP SGO SGD SAL SRD SEF SEG SLK SCK ES
-- @veq
noncomputable def eqT (t t' : Tm) : Bool := @decide (t = t') (Classical.propDecidable _)
theorem eqT_t {t t' : Tm} (h : t = t') : eqT t t' = true := by unfold eqT; exact @decide_eq_true _ (Classical.propDecidable _) h
theorem eqT_f {t t' : Tm} (h : t ≠ t') : eqT t t' = false := by unfold eqT; exact @decide_eq_false _ (Classical.propDecidable _) h
theorem eqT_iff {t t' : Tm} : eqT t t' = true ↔ t = t' := by unfold eqT; exact @decide_eq_true_iff _ (Classical.propDecidable _)
theorem sbeq_t {a b : ByteArray} (h : a = b) : (a.toList == b.toList) = true := by rw [h]; exact beq_self_eq_true _
theorem sbeq_f {a b : ByteArray} (h : a ≠ b) : (a.toList == b.toList) = false := by
  rw [beq_eq_false_iff_ne]; exact fun q => h (toList_inj q)

-- hornbeamref02.Same
set_option maxHeartbeats 4000000 in
theorem same_ev {m : Nat} : ∀ {t t' : Tm} {cs cs' : List Value} {H : Heap}, SizeOf.sizeOf t < m → RepT H t cs → RepT H t' cs' → H.wf →
    EvF Tryd.prog okT 20 [.agg ⟨cs⟩, .agg ⟨cs'⟩] H fun v H' => v = .bool (eqT t t') ∧ HX H H' := by
  induction m with
  | zero => intro t t' cs cs' H h; omega
  | succ m ih =>
  intro t t' cs cs' H hsz r r' hw
  obtain ⟨a, c, cells, rfl, b1, b2, b3, b4, b5, rl⟩ := r.six
  obtain ⟨a', c', cells', rfl, b1', b2', b3', b4', b5', rl'⟩ := r'.six
  refine EvF.enter rfl Tryd.func20 (by decide) rfl ?_
  (repeat refine EvC.seq ?_); refine EvC.reg ?_; simp (config := { maxSteps := 2000000 }) (disch := first | omega | rfl) only [initTm, EL_cons, EL_nil, LX_val, dop_box, dBox, dop_assign, ev_const, ev_tmp, Tr.get_put, put_some, Nat.reduceEqDiff, Option.getD_some, Nat.zero_add, Value.cells, List.all_cons, List.all_nil, one, Bool.and_self, reduceCtorEq, if_true, if_false, next_new, thenC_normal]
  obtain ⟨H2, e2, hx2, gp, gq, hnx, hw2⟩ := new2 hw (.row (six t a c) 26) (.row (six t' a' c') 26)
  simp only [e2]
  have q1 := row6 gp
  have q2 := row6 gq
  clear e2
  by_cases k1 : t.kind = t'.kind
  rotate_left
  · repeat' (first | refine EvC.seq ?_ | refine EvC.scope ?_ | refine EvC.block ?_ | (refine EvC.skip ?_) | (refine EvC.exit ?_) | (refine EvC.ret ?_; try simp only [thenC_ret, inBlock_ret]) | (refine EvC.reg ?_; simp (config := { maxSteps := 2000000 }) (disch := first | omega | rfl) only [EL_cons, EL_nil, EL_guard, LX_val, LG_ft, dop_assign, dop_move, dop_pick, dPick_bool, dop_load, dop_fieldAddr, dop_bin, ev_const, ev_tmp, Tr.get_put, put_some, Nat.reduceEqDiff, Option.getD_some, Nat.add_zero, reduceCtorEq, if_true, if_false, dload1_some, thenC_normal, guardOf_eq, guardGet_some, List.getElem?_cons_succ, List.getElem?_cons_zero, dBin_neq, fa26_0, ld3, ine_t k1, q1, q2]) | (refine EvC.condT ?_ ?_; simp (config := { maxSteps := 2000000 }) (disch := first | omega | rfl) only [ev_tmp, Tr.get_put, Nat.reduceEqDiff, Option.getD_some, reduceCtorEq, if_true, if_false]; refine EvC_go ?_))
    exact leave_one rfl (by first | (simp only [Tr.get_put, Nat.reduceEqDiff, reduceCtorEq, if_true, if_false, Option.some.injEq]; rfl) | simp only []) ⟨by rw [eqT_f (fun h => k1 (by rw [h]))], hx2⟩
  by_cases k2 : t.name = t'.name
  rotate_left
  · repeat' (first | refine EvC.seq ?_ | refine EvC.scope ?_ | refine EvC.block ?_ | (refine EvC.skip ?_) | (refine EvC.exit ?_) | (refine EvC.ret ?_; try simp only [thenC_ret, inBlock_ret]) | (refine EvC.reg ?_; simp (config := { maxSteps := 2000000 }) (disch := first | omega | rfl) only [EL_cons, EL_nil, EL_guard, LX_val, LG_ff, LG_ft, dop_assign, dop_move, dop_pick, dPick_bool, dop_load, dop_fieldAddr, dop_bin, ev_const, ev_tmp, Tr.get_put, put_some, Nat.reduceEqDiff, Option.getD_some, Nat.add_zero, Nat.zero_add, reduceCtorEq, if_true, if_false, dload1_some, thenC_normal, guardOf_eq, guardGet_some, List.getElem?_cons_succ, List.getElem?_cons_zero, dBin_neq, fa26_0, ld3, fa26_1, ld9, ine_f k1, q1, q2, dBin_neqS, sbeq_f k2, Bool.not_false, Bool.false_eq_true]) | (refine EvC.condT ?_ ?_; simp (config := { maxSteps := 2000000 }) (disch := first | omega | rfl) only [ev_tmp, Tr.get_put, Nat.reduceEqDiff, Option.getD_some, reduceCtorEq, if_true, if_false]; refine EvC_go ?_))
    exact leave_one rfl (by first | (simp only [Tr.get_put, Nat.reduceEqDiff, reduceCtorEq, if_true, if_false, Option.some.injEq]; rfl) | simp only []) ⟨by rw [eqT_f (fun h => k2 (by rw [h]))], hx2⟩
  by_cases k3 : t.num = t'.num
  rotate_left
  · repeat' (first | refine EvC.seq ?_ | refine EvC.scope ?_ | refine EvC.block ?_ | (refine EvC.skip ?_) | (refine EvC.exit ?_) | (refine EvC.ret ?_; try simp only [thenC_ret, inBlock_ret]) | (refine EvC.reg ?_; simp (config := { maxSteps := 2000000 }) (disch := first | omega | rfl) only [EL_cons, EL_nil, EL_guard, LX_val, LG_ff, LG_ft, dop_assign, dop_move, dop_pick, dPick_bool, dop_load, dop_fieldAddr, dop_bin, ev_const, ev_tmp, Tr.get_put, put_some, Nat.reduceEqDiff, Option.getD_some, Nat.add_zero, Nat.zero_add, reduceCtorEq, if_true, if_false, dload1_some, thenC_normal, guardOf_eq, guardGet_some, List.getElem?_cons_succ, List.getElem?_cons_zero, dBin_neq, fa26_0, ld3, fa26_1, ld9, fa26_2, ine_f k1, q1, q2, dBin_neqS, sbeq_t k2, sbeq_f k3, Bool.not_false, Bool.not_true, Bool.false_eq_true]) | (refine EvC.condT ?_ ?_; simp (config := { maxSteps := 2000000 }) (disch := first | omega | rfl) only [ev_tmp, Tr.get_put, Nat.reduceEqDiff, Option.getD_some, reduceCtorEq, if_true, if_false]; refine EvC_go ?_))
    exact leave_one rfl (by first | (simp only [Tr.get_put, Nat.reduceEqDiff, reduceCtorEq, if_true, if_false, Option.some.injEq]; rfl) | simp only []) ⟨by rw [eqT_f (fun h => k3 (by rw [h]))], hx2⟩
  by_cases k4 : t.bits = t'.bits
  rotate_left
  · repeat' (first | refine EvC.seq ?_ | refine EvC.scope ?_ | refine EvC.block ?_ | (refine EvC.skip ?_) | (refine EvC.exit ?_) | (refine EvC.ret ?_; try simp only [thenC_ret, inBlock_ret]) | (refine EvC.reg ?_; simp (config := { maxSteps := 2000000 }) (disch := first | omega | rfl) only [EL_cons, EL_nil, EL_guard, LX_val, LG_ff, LG_ft, dop_assign, dop_move, dop_pick, dPick_bool, dop_load, dop_fieldAddr, dop_bin, ev_const, ev_tmp, Tr.get_put, put_some, Nat.reduceEqDiff, Option.getD_some, Nat.add_zero, Nat.zero_add, reduceCtorEq, if_true, if_false, dload1_some, thenC_normal, guardOf_eq, guardGet_some, List.getElem?_cons_succ, List.getElem?_cons_zero, dBin_neq, fa26_0, ld3, fa26_1, ld9, fa26_2, fa26_3, ld23, ine_f k1, q1, q2, dBin_neqS, sbeq_t k2, sbeq_t k3, ine_t k4, Bool.not_true, Bool.false_eq_true]) | (refine EvC.condT ?_ ?_; simp (config := { maxSteps := 2000000 }) (disch := first | omega | rfl) only [ev_tmp, Tr.get_put, Nat.reduceEqDiff, Option.getD_some, reduceCtorEq, if_true, if_false]; refine EvC_go ?_))
    exact leave_one rfl (by first | (simp only [Tr.get_put, Nat.reduceEqDiff, reduceCtorEq, if_true, if_false, Option.some.injEq]; rfl) | simp only []) ⟨by rw [eqT_f (fun h => k4 (by rw [h]))], hx2⟩
  by_cases k5 : t.var = t'.var
  rotate_left
  · repeat' (first | refine EvC.seq ?_ | refine EvC.scope ?_ | refine EvC.block ?_ | (refine EvC.skip ?_) | (refine EvC.exit ?_) | (refine EvC.ret ?_; try simp only [thenC_ret, inBlock_ret]) | (refine EvC.reg ?_; simp (config := { maxSteps := 2000000 }) (disch := first | omega | rfl) only [EL_cons, EL_nil, EL_guard, LX_val, LG_ff, LG_ft, dop_assign, dop_move, dop_pick, dPick_bool, dop_load, dop_fieldAddr, dop_bin, ev_const, ev_tmp, Tr.get_put, put_some, Nat.reduceEqDiff, Option.getD_some, Nat.add_zero, Nat.zero_add, reduceCtorEq, if_true, if_false, dload1_some, thenC_normal, guardOf_eq, guardGet_some, List.getElem?_cons_succ, List.getElem?_cons_zero, dBin_neq, fa26_0, ld3, fa26_1, ld9, fa26_2, fa26_3, ld23, fa26_4, ine_f k1, q1, q2, dBin_neqS, sbeq_t k2, sbeq_t k3, ine_f k4, ine_t k5, Bool.not_true, Bool.false_eq_true]) | (refine EvC.condT ?_ ?_; simp (config := { maxSteps := 2000000 }) (disch := first | omega | rfl) only [ev_tmp, Tr.get_put, Nat.reduceEqDiff, Option.getD_some, reduceCtorEq, if_true, if_false]; refine EvC_go ?_))
    exact leave_one rfl (by first | (simp only [Tr.get_put, Nat.reduceEqDiff, reduceCtorEq, if_true, if_false, Option.some.injEq]; rfl) | simp only []) ⟨by rw [eqT_f (fun h => k5 (by rw [h]))], hx2⟩
  by_cases k6 : (t.args.length : Int) = t'.args.length
  rotate_left
  · repeat' (first | refine EvC.seq ?_ | refine EvC.scope ?_ | refine EvC.block ?_ | (refine EvC.skip ?_) | (refine EvC.exit ?_) | (refine EvC.ret ?_; try simp only [thenC_ret, inBlock_ret]) | (refine EvC.reg ?_; simp (config := { maxSteps := 2000000 }) (disch := first | omega | rfl) only [EL_cons, EL_nil, EL_guard, LX_val, LG_ff, dop_assign, dop_move, dop_pick, dPick_bool, dop_load, dop_fieldAddr, dop_bin, ev_const, ev_tmp, Tr.get_put, put_some, Nat.reduceEqDiff, Option.getD_some, Nat.add_zero, Nat.zero_add, reduceCtorEq, if_true, if_false, dload1_some, thenC_normal, guardOf_eq, guardGet_some, List.getElem?_cons_succ, List.getElem?_cons_zero, dBin_neq, dop_len, fa26_0, ld3, fa26_1, ld9, fa26_2, fa26_3, ld23, fa26_4, fa26_5, ld24, ln24, ine_f k1, q1, q2, dBin_neqS, sbeq_t k2, sbeq_t k3, ine_f k4, ine_f k5, ine_t k6, Bool.not_true, Bool.false_eq_true]) | (refine EvC.condT ?_ ?_; simp (config := { maxSteps := 2000000 }) (disch := first | omega | rfl) only [ev_tmp, Tr.get_put, Nat.reduceEqDiff, Option.getD_some, reduceCtorEq, if_true, if_false]; refine EvC_go ?_))
    exact leave_one rfl (by first | (simp only [Tr.get_put, Nat.reduceEqDiff, reduceCtorEq, if_true, if_false, Option.some.injEq]; rfl) | simp only []) ⟨by rw [eqT_f (fun h => k6 (by rw [h]))], hx2⟩
  repeat' (first | refine EvC.seq ?_ | refine EvC.scope ?_ | refine EvC.block ?_ | (refine EvC.skip ?_; try simp only [thenC_normal]) | (refine EvC.exit ?_) | (refine EvC.ret ?_; try simp only [thenC_ret, inBlock_ret]) | (refine EvC.reg ?_; simp (config := { maxSteps := 2000000 }) (disch := first | omega | rfl) only [EL_cons, EL_nil, EL_guard, LX_val, LG_ff, dop_assign, dop_move, dop_pick, dPick_bool, dop_load, dop_fieldAddr, dop_bin, ev_const, ev_tmp, Tr.get_put, put_some, Nat.reduceEqDiff, Option.getD_some, Nat.add_zero, Nat.zero_add, reduceCtorEq, if_true, if_false, dload1_some, thenC_normal, guardOf_eq, guardGet_some, List.getElem?_cons_succ, List.getElem?_cons_zero, dBin_neq, dop_len, fa26_0, ld3, fa26_1, ld9, fa26_2, fa26_3, ld23, fa26_4, fa26_5, ld24, ln24, ine_f k1, q1, q2, dBin_neqS, sbeq_t k2, sbeq_t k3, ine_f k4, ine_f k5, ine_f k6, Bool.not_true, Bool.false_eq_true]) | (refine EvC.condT ?_ ?_; simp (config := { maxSteps := 2000000 }) (disch := first | omega | rfl) only [ev_tmp, Tr.get_put, Nat.reduceEqDiff, Option.getD_some, reduceCtorEq, if_true, if_false]; refine EvC_go ?_) | (refine EvC.condF ?_ ?_; simp (config := { maxSteps := 2000000 }) (disch := first | omega | rfl) only [ev_tmp, Tr.get_put, Nat.reduceEqDiff, Option.getD_some, reduceCtorEq, if_true, if_false]; refine EvC_go ?_))
  have hlen : t.args.length = t'.args.length := by omega
  have hm := rl.max
  refine EvC.loop (fun k st => ∃ tm H' i, st = ⟨tm, [], H'⟩ ∧ k = t.args.length - i ∧ i ≤ t.args.length ∧ (∀ j, j < i → t.args[j]? = t'.args[j]?) ∧
      tm.get 2 = some (.pointer (some ⟨H.next, 0, none⟩)) ∧ tm.get 3 = some (.pointer (some ⟨H.next + 1, 0, none⟩)) ∧ tm.get 5 = some (.int .i64 (i : Nat)) ∧
      H'.get H.next = some (.row (six t a c) 26) ∧ H'.get (H.next + 1) = some (.row (six t' a' c') 26) ∧ HX H H') ?_ t.args.length _ ?_
  · rintro k st ⟨tm, H', i, rfl, rfl, hi, hc, t2, t3, t5, gp', gq', hx'⟩
    have q1 := row6 gp'
    have q2 := row6 gq'
    by_cases hlt : i < t.args.length
    · have hlt' : i < t'.args.length := by omega
      obtain ⟨b, o, a1, c1, rfl, hld, hr1⟩ := rl.el hlt
      obtain ⟨b', o', a2, c2, rfl, hld', hr2⟩ := rl'.el hlt'
      have hld1 := hx'.load hw hld
      have hld2 := hx'.load hw hld'
      repeat' (first | refine EvC.seq ?_ | refine EvC.scope ?_ | refine EvC.block ?_ | (refine EvC.skip ?_; try simp only [thenC_normal]) | (refine EvC.exit ?_) | (refine EvC.ret ?_; try simp only [thenC_ret, inBlock_ret]) | (refine EvC.reg ?_; simp (config := { maxSteps := 2000000 }) (disch := first | omega | rfl) only [EL_cons, EL_nil, LX_val, dop_move, dop_load, dop_fieldAddr, dop_bin, dBin_lss, ev_tmp, Tr.get_put, put_some, Nat.reduceEqDiff, Option.getD_some, Nat.zero_add, if_true, if_false, dload1_some, thenC_normal, dop_len, fa26_5, ld24, ln24, t2, t5, q1, decl hlt]) | (refine EvC.drw [([(0, 0), (1, 0), (2, 0), (3, 0), (4, 0), (5, 0), (6, 0), (7, 0), (8, 0), (9, 0)], some 10), ([(11, 1)], none)] ?_ ?_; kernel_rfl; simp (config := { maxSteps := 2000000 }) (disch := first | omega | rfl) only [dop_move, dop_load, dop_fieldAddr, dop_indexAddr, ev_tmp, Tr.get_put, put_some, Nat.reduceEqDiff, Option.getD_some, Nat.reduceAdd, Nat.zero_add, reduceCtorEq, if_true, if_false, dloadA_some, dload1_some, List.take_zero, List.length_cons, List.length_nil, List.map_cons, List.map_nil, and_self, true_and, thenC_normal, List.getElem?_cons_succ, List.getElem?_cons_zero, fa26_5, ld24, ia24, ld26, cl20, t2, t3, t5, q1, q2, hld1, hld2, ES_some, STG_op, STG_eff, SOP_none, SGO_read, SRD_val, SEF_none, SLK_call, isAlloc, isRead, or_true, true_and, sameOn_nil, Nat.sub_self, reduceCtorEq, load_bump, List.size_toArray, and_self]) | (refine EvC.condT ?_ ?_; simp (config := { maxSteps := 2000000 }) (disch := first | omega | rfl) only [ev_tmp, Tr.get_put, Nat.reduceEqDiff, Option.getD_some, if_true, if_false]; refine EvC_go ?_))
      have hb := hx'.bump 12
      have hs := args_size (List.getElem?_eq_getElem hlt)
      refine (ih (t := t.args[i]) (t' := t'.args[i]) (by omega) (hr1.mono hb hw) (hr2.mono hb hw) hb.wf).mono ?_
      rintro v H4 ⟨rfl, hx4⟩
      have hx5 := hb.trans hx4
      by_cases he : t.args[i] = t'.args[i]
      · repeat' (first | refine EvC.seq ?_ | refine EvC.scope ?_ | refine EvC.block ?_ | (refine EvC.skip ?_; try simp only [thenC_normal, inBlock_normal]) | (refine EvC.exit ?_) | (refine EvC.ret ?_; try simp only [thenC_ret, inBlock_ret]) | (refine EvC.reg ?_; simp (config := { maxSteps := 2000000 }) (disch := first | omega | rfl) only [EL_cons, EL_nil, LX_val, dop_assign, dop_move, dop_bin, dBin_add, ev_const, ev_tmp, Tr.get_put, put_some, Nat.reduceEqDiff, Option.getD_some, if_true, if_false, thenC_normal, dop_un, un_not, Bool.not_true, t5, wrap_i64]) | (refine SCK_go ?_; simp (config := { maxSteps := 2000000 }) (disch := first | omega | rfl) only [dop_assign, ev_tmp, Tr.get_put, put_some, Nat.reduceEqDiff, Option.getD_some, Nat.zero_add, if_true, if_false, List.take_zero, List.length_cons, List.length_nil, and_self, true_and, List.getElem?_cons_succ, List.getElem?_cons_zero, eqT_t he, ES_none, STG_op, STG_end, SOP_none, SGO_read, SRD_val, isAlloc, isRead, or_true, true_and, sameOn_nil, Nat.sub_self, and_self]) | (refine EvC.condT ?_ ?_; simp (config := { maxSteps := 2000000 }) (disch := first | omega | rfl) only [ev_tmp, Tr.get_put, Nat.reduceEqDiff, Option.getD_some, if_true, if_false]; refine EvC_go ?_) | (refine EvC.condF ?_ ?_; simp (config := { maxSteps := 2000000 }) (disch := first | omega | rfl) only [ev_tmp, Tr.get_put, Nat.reduceEqDiff, Option.getD_some, if_true, if_false]; refine EvC_go ?_))
        refine ⟨t.args.length - (i + 1), by omega, _, _, i + 1, rfl, rfl, by omega, fun j hj => ?_, (by first | (simp only [Tr.get_put, Nat.reduceEqDiff, if_false, t2]; rfl) | simp only [Tr.get_put, Nat.reduceEqDiff, if_false, t2]), (by first | (simp only [Tr.get_put, Nat.reduceEqDiff, if_false, t3]; rfl) | simp only [Tr.get_put, Nat.reduceEqDiff, if_false, t3]), (by first | (simp only [Tr.get_put, Nat.reduceEqDiff, if_true, if_false, Option.some.injEq]; rfl) | simp only []), hx4.get hb.wf gp', hx4.get hb.wf gq', hx5⟩
        by_cases hji : j = i
        · subst hji; rw [List.getElem?_eq_getElem hlt, List.getElem?_eq_getElem hlt', he]
        · exact hc j (by omega)
      · repeat' (first | refine EvC.seq ?_ | refine EvC.scope ?_ | refine EvC.block ?_ | (refine EvC.skip ?_) | (refine EvC.exit ?_) | (refine EvC.ret ?_; try simp only [thenC_ret, inBlock_ret]) | (refine EvC.reg ?_; simp (config := { maxSteps := 2000000 }) (disch := first | omega | rfl) only [EL_cons, EL_nil, LX_val, dop_assign, dop_move, ev_const, ev_tmp, Tr.get_put, put_some, Nat.reduceEqDiff, Option.getD_some, if_true, if_false, thenC_normal, dop_un, un_not, Bool.not_false]) | (refine SCK_go ?_; simp (config := { maxSteps := 2000000 }) (disch := first | omega | rfl) only [dop_assign, ev_tmp, Tr.get_put, put_some, Nat.reduceEqDiff, Option.getD_some, Nat.zero_add, if_true, if_false, List.take_zero, List.length_cons, List.length_nil, and_self, true_and, List.getElem?_cons_succ, List.getElem?_cons_zero, eqT_f he, ES_none, STG_op, STG_end, SOP_none, SGO_read, SRD_val, isAlloc, isRead, or_true, true_and, sameOn_nil, Nat.sub_self, and_self]) | (refine EvC.condT ?_ ?_; simp (config := { maxSteps := 2000000 }) (disch := first | omega | rfl) only [ev_tmp, Tr.get_put, Nat.reduceEqDiff, Option.getD_some, if_true, if_false]; refine EvC_go ?_))
        refine leave_one rfl (by first | (simp only [Tr.get_put, Nat.reduceEqDiff, if_true, if_false, Option.some.injEq]; rfl) | simp only []) ⟨?_, hx5⟩
        rw [eqT_f]
        rintro rfl
        exact he rfl
    · repeat' (first | refine EvC.seq ?_ | refine EvC.scope ?_ | refine EvC.block ?_ | (refine EvC.skip ?_) | (refine EvC.exit ?_; try simp only [if_true, thenC_normal, inBlock_exit, thenC_exit]) | (refine EvC.ret ?_; try simp only [thenC_ret, inBlock_ret]) | (refine EvC.reg ?_; simp (config := { maxSteps := 2000000 }) (disch := first | omega | rfl) only [EL_cons, EL_nil, LX_val, dop_assign, dop_move, dop_load, dop_fieldAddr, dop_bin, dBin_lss, ev_const, ev_tmp, Tr.get_put, put_some, Nat.reduceEqDiff, Option.getD_some, Nat.zero_add, if_true, if_false, dload1_some, thenC_normal, dop_len, fa26_5, ld24, ln24, t2, t5, q1, decn hlt]) | (refine EvC.condT ?_ ?_; simp (config := { maxSteps := 2000000 }) (disch := first | omega | rfl) only [ev_tmp, Tr.get_put, Nat.reduceEqDiff, Option.getD_some, if_true, if_false]; refine EvC_go ?_) | (refine EvC.condF ?_ ?_; simp (config := { maxSteps := 2000000 }) (disch := first | omega | rfl) only [ev_tmp, Tr.get_put, Nat.reduceEqDiff, Option.getD_some, if_true, if_false]; refine EvC_go ?_))
      refine leave_one rfl (by first | (simp only [Tr.get_put, Nat.reduceEqDiff, if_true, if_false, Option.some.injEq]; rfl) | simp only []) ⟨?_, hx'⟩
      rw [eqT_t]
      refine tm_ext k1 k2 k3 k4 k5 (List.ext_getElem? fun j => ?_)
      by_cases hj : j < i
      · exact hc j hj
      · rw [List.getElem?_eq_none (by omega), List.getElem?_eq_none (by omega)]
  · exact ⟨_, _, 0, rfl, rfl, by omega, by omega, (by first | (simp only [Tr.get_put, Nat.reduceEqDiff, reduceCtorEq, if_true, if_false]; rfl) | simp only [Tr.get_put, Nat.reduceEqDiff, reduceCtorEq, if_true, if_false]), (by first | (simp only [Tr.get_put, Nat.reduceEqDiff, reduceCtorEq, if_true, if_false]; rfl) | simp only [Tr.get_put, Nat.reduceEqDiff, reduceCtorEq, if_true, if_false]), (by first | (simp only [Tr.get_put, Nat.reduceEqDiff, reduceCtorEq, if_true, if_false, Option.some.injEq]; rfl) | simp only []), gp, gq, hx2⟩
theorem same_tells {t t' : Tm} {cs cs' : List Value} {H : Heap} (r : RepT H t cs) (r' : RepT H t' cs') (hw : H.wf) :
    EvF Tryd.prog okT 20 [.agg ⟨cs⟩, .agg ⟨cs'⟩] H fun v H' => v = .bool (eqT t t') ∧ HX H H' := same_ev (Nat.lt_succ_self _) r r' hw
end Go.Proofs.YtlllbkjiadcloaaDoor.hb
end

-- Y11
section
/- The law of checks. -/
namespace Go.Proofs.YtlllbkjiadcloaaDoor.hb
open Go Go.RowKit Go.Hb
variable {ok : Ok}
set_option maxRecDepth 10000
attribute [local irreducible] LX LG EL STG SOP SGO SGD SAL SRD SEF SEG SLK SCK ES
theorem veq_term {k b v : Int} {s u : ByteArray} {a : Option Addr} {n c : Nat} : veq (.agg ⟨[.int .i64 k, .string s, .string u, .int .u64 b, .int .i64 v, .slice a n c]⟩) (.agg ⟨[.int .i64 k, .string s, .string u, .int .u64 b, .int .i64 v, .slice a n c]⟩) = true := by
  simp [veq, veqL]
theorem awake_tells {H : Heap} (hw : H.wf) : EvF Tryd.prog okT 12 [] H fun v H' => v = .bool true ∧ HX H H' := awake_ev hw

-- hornbeamlaw02.TermChecks
set_option maxHeartbeats 2000000 in
theorem termChecks_ev {t : Tm} {cs : List Value} {H : Heap} (r : RepT H t cs) (hw : H.wf) : EvF Tryd.prog okT 4 [.agg ⟨cs⟩] H fun v _ => v = .bool true := by
  have r0 := r
  obtain ⟨a, c, cells, rfl, b1, b2, b3, b4, b5, rl⟩ := r.inv
  have hx0 := (HX.refl hw).new (some (Blk.row [Value.int IntKind.i64 t.kind, Value.string t.name, Value.string t.num, Value.int IntKind.u64 t.bits, Value.int IntKind.i64 t.var, Value.slice a t.args.length c] 26))
  refine EvF.enter rfl Tryd.func4 (by decide) rfl ?_
  repeat' (first | refine EvC.seq ?_ | refine EvC.scope ?_ | refine EvC.block ?_ | (refine EvC.skip ?_) | (refine EvC.exit ?_) | (refine EvC.ret ?_; try simp only [thenC_ret, inBlock_ret]) | (refine EvC.reg ?_; simp (config := { maxSteps := 2000000 }) (disch := first | omega | rfl) only [initTm, EL_cons, EL_nil, LX_val, LX_call, dop_box, dBox, dop_assign, ev_const, ev_tmp, Tr.get_put, put_some, Nat.reduceEqDiff, Option.getD_some, Value.cells, List.all_cons, List.all_nil, one, Bool.and_self, reduceCtorEq, if_true, if_false, List.map_nil, thenC_normal, cl12]))
  have hl0 : (H.new (some (Blk.row [Value.int IntKind.i64 t.kind, Value.string t.name, Value.string t.num, Value.int IntKind.u64 t.bits, Value.int IntKind.i64 t.var, Value.slice a t.args.length c] 26))).load ⟨H.next, 0, none⟩ 6 = some [Value.int IntKind.i64 t.kind, Value.string t.name, Value.string t.num, Value.int IntKind.u64 t.bits, Value.int IntKind.i64 t.var, Value.slice a t.args.length c] := ld_new_eq
  refine (awake_tells hx0.wf).mono ?_
  rintro v H1 ⟨rfl, hx1⟩
  have hl1 := hx1.load hx0.wf hl0
  repeat' (first | refine EvC.seq ?_ | refine EvC.scope ?_ | refine EvC.block ?_ | (refine EvC.skip ?_) | (refine EvC.exit ?_) | (refine EvC.ret ?_; try simp only [thenC_ret, inBlock_ret]) | (refine EvC.drw [([(0, 0), (1, 0), (2, 0)], some 3), ([(4, 0)], some 5), ([(6, 2), (7, 2), (8, 2), (9, 2)], some 10), ([(11, 2)], some 12), ([(13, 4), (14, 4), (15, 4)], none)] ?_ ?_; kernel_rfl; simp (config := { maxSteps := 2000000 }) (disch := first | omega | rfl) only [dop_move, dop_load, ev_tmp, Tr.get_put, put_some, Nat.reduceEqDiff, Option.getD_some, Nat.reduceAdd, Nat.zero_add, reduceCtorEq, if_true, if_false, dloadA_some, List.take_zero, List.length_cons, List.length_nil, List.map_cons, List.map_nil, and_self, true_and, thenC_normal, guardOf_eq, guardGet_some, List.getElem?_cons_succ, List.getElem?_cons_zero, ld26, cl13, hl1, ES_some, STG_op, STG_eff, SOP_none, SOP_guard, SGD_tt, SGO_read, SRD_val, SEF_guard, SEG_tt, SLK_call, isAlloc, isRead, or_true, true_and, sameOn_nil, Nat.sub_self, reduceCtorEq, load_bump, List.size_toArray, and_self]))
  have hw1 := hx1.wf
  have hb1 := (HX.refl hw1).bump 16
  have r1 := (r0.mono hx0 hw).mono hx1 hx0.wf
  have r1b := r1.mono hb1 hw1
  refine (nodes_tells t _ _ r1b hb1.wf).mono ?_
  rintro v H2 ⟨rfl, hx2⟩
  have hl2 := hx2.load hb1.wf (show (⟨H1.next + 16, H1.t⟩ : Heap).load _ _ = _ from hl1)
  repeat' (first | refine EvC.seq ?_ | refine EvC.scope ?_ | refine EvC.block ?_ | (refine EvC.skip ?_) | (refine EvC.exit ?_) | (refine EvC.ret ?_; try simp only [thenC_ret, inBlock_ret]) | (refine SCK_go ?_; simp (config := { maxSteps := 2000000 }) (disch := first | omega | rfl) only [dop_load, ev_tmp, Tr.get_put, put_some, Nat.reduceEqDiff, Option.getD_some, Nat.zero_add, Bool.and_self, reduceCtorEq, if_true, if_false, dloadA_some, List.take_succ_cons, List.take_zero, List.length_cons, List.length_nil, Nat.beq_refl, List.map_cons, List.map_nil, and_self, true_and, guardOf_eq, guardGet_some, List.getElem?_cons_succ, List.getElem?_cons_zero, ld26, cl14, hl1, hl2, veq_term, ES_some, STG_op, STG_eff, SOP_guard, SGD_tt, SGO_read, SRD_val, SEF_guard, SEG_tt, SLK_call, isAlloc, isRead, or_true, true_and, sameOn_nil, Nat.sub_zero, reduceCtorEq, load_bump, sameOn_cons, sameK_val, and_self, Bool.and_self]))
  refine (nodesR_tells t _ _ (r1b.mono hx2 hb1.wf) hx2.wf).mono ?_
  rintro v H3 ⟨rfl, hx3⟩
  have hl3 := hx3.load hx2.wf hl2
  repeat' (first | refine EvC.seq ?_ | refine EvC.scope ?_ | refine EvC.block ?_ | (refine EvC.skip ?_) | (refine EvC.exit ?_) | (refine EvC.ret ?_; try simp only [thenC_ret, inBlock_ret]) | (refine SCK_go ?_; simp (config := { maxSteps := 2000000 }) (disch := first | omega | rfl) only [dop_move, dop_pick, dPick_bool, dop_load, dop_bin, ev_const, ev_tmp, Tr.get_put, put_some, Nat.reduceEqDiff, Option.getD_some, Nat.reduceAdd, Nat.zero_add, reduceCtorEq, if_true, if_false, dloadA_some, List.take_zero, List.length_cons, List.length_nil, List.map_cons, List.map_nil, and_self, true_and, guardOf_eq, guardGet_some, List.getElem?_cons_succ, List.getElem?_cons_zero, dBin_eql, ld26, cl15, hl3, ieq_t, ES_some, STG_op, STG_eff, SOP_none, SOP_guard, SGD_tt, SGO_read, SRD_val, SEF_guard, SEG_tt, SLK_call, isAlloc, isRead, or_true, true_and, sameOn_nil, Nat.sub_self, reduceCtorEq, and_self]))
  refine (check_tells t _ _ ((r1b.mono hx2 hb1.wf).mono hx3 hx2.wf) hx3.wf).mono ?_
  rintro v H4 ⟨rfl, hx4⟩
  have hl4 := hx4.load hx3.wf hl3
  repeat' (first | refine EvC.seq ?_ | refine EvC.scope ?_ | refine EvC.block ?_ | (refine EvC.skip ?_) | (refine EvC.exit ?_) | (refine EvC.ret ?_; try simp only [thenC_ret, inBlock_ret]) | (refine SCK_go ?_; simp (config := { maxSteps := 2000000 }) (disch := first | omega | rfl) only [dop_load, ev_tmp, Tr.get_put, put_some, Nat.reduceEqDiff, Option.getD_some, Nat.reduceAdd, Nat.zero_add, Bool.and_self, reduceCtorEq, if_true, if_false, dloadA_some, List.take_succ_cons, List.take_zero, List.length_cons, List.length_nil, Nat.beq_refl, List.map_cons, List.map_nil, and_self, true_and, guardOf_eq, guardGet_some, List.getElem?_cons_succ, List.getElem?_cons_zero, ld26, cl16, hl3, hl4, veq_term, ES_some, STG_op, STG_eff, SOP_guard, SGD_tt, SGO_read, SRD_val, SEF_guard, SEG_tt, SLK_call, isAlloc, isRead, or_true, true_and, sameOn_nil, reduceCtorEq, sameOn_cons, sameK_val, and_self, Bool.and_self]))
  refine (checkR_tells t _ _ (((r1b.mono hx2 hb1.wf).mono hx3 hx2.wf).mono hx4 hx3.wf) hx4.wf).mono ?_
  rintro v H5 ⟨rfl, hx5⟩
  repeat' (first | refine EvC.seq ?_ | refine EvC.scope ?_ | refine EvC.block ?_ | (refine EvC.skip ?_) | (refine EvC.exit ?_) | (refine EvC.ret ?_; try simp only [thenC_ret, inBlock_ret]) | (refine SCK_go ?_; simp (config := { maxSteps := 2000000 }) (disch := first | omega | rfl) only [dop_assign, dop_pick, dPick_bool, dop_bin, ev_const, ev_tmp, Tr.get_put, put_some, Nat.reduceEqDiff, Option.getD_some, Nat.reduceAdd, Nat.zero_add, reduceCtorEq, if_true, if_false, List.take_zero, List.length_cons, List.length_nil, and_self, true_and, guardOf_eq, guardGet_some, List.getElem?_cons_succ, List.getElem?_cons_zero, dBin_eql, ieq_t, ES_none, STG_op, STG_end, SOP_none, SOP_guard, SGD_tt, SGO_read, SRD_val, isAlloc, isRead, or_true, true_and, sameOn_nil, Nat.sub_self, reduceCtorEq, and_self]))
  exact leave_one rfl (by first | (simp only [Tr.get_put, Nat.reduceEqDiff, reduceCtorEq, if_true, if_false]; rfl) | simp only [Tr.get_put, Nat.reduceEqDiff, reduceCtorEq, if_true, if_false]) rfl
end Go.Proofs.YtlllbkjiadcloaaDoor.hb
end

-- Z17
section
/- The law of the one order. -/
namespace Go.Hb
open Go Go.RowKit
theorem new3 {H : Heap} (hw : H.wf) (A B C : Blk) : ∃ H2, ((H.new (some A)).new (some B)).new (some C) = H2 ∧ HX H H2 ∧ H2.get H.next = some A ∧ H2.get (H.next + 1) = some B ∧ H2.get (H.next + 2) = some C ∧ H2.next = H.next + 3 ∧ H2.wf := by
  obtain ⟨H2, e2, hx, g1, g2, hn, hw2⟩ := new2 hw A B
  obtain ⟨H3, e3, hx3, g3, hn3, hw3⟩ := new1 hw2 C
  rw [hn] at g3 hn3
  exact ⟨H3, by rw [e2, e3], hx.trans hx3, hx3.get hw2 g1, hx3.get hw2 g2, g3, hn3, hw3⟩
end Go.Hb
namespace Go.Proofs.YtlllbkjiadcloaaDoor.hb
open Go Go.RowKit Go.Hb
variable {ok : Ok}
set_option maxRecDepth 10000
attribute [local irreducible] LX LG EL STG SOP SGO SGD SAL SRD SEF SEG SLK SCK ES
-- @veq
theorem chk_three {t t' t2 : Tm} : chkL [t, t', t2] = 0 ↔ checkS t = 0 ∧ checkS t' = 0 ∧ checkS t2 = 0 := by
  simp only [chkL]
  by_cases h : checkS t = 0
  · by_cases h' : checkS t' = 0
    · by_cases h2 : checkS t2 = 0 <;> simp [h, h', h2]
    · simp [h, h']
  · simp [h]
theorem chk_two' {t t' : Tm} : chkL [t, t'] = 0 ↔ checkS t = 0 ∧ checkS t' = 0 := by
  simp only [chkL]
  by_cases h : checkS t = 0
  · by_cases h' : checkS t' = 0 <;> simp [h, h']
  · simp [h]
theorem compare_ok {t t' : Tm} {cs cs' : List Value} {H : Heap} (r : RepT H t cs) (r' : RepT H t' cs') (hw : H.wf) (h : checkS t = 0) (h' : checkS t' = 0) :
    EvF Tryd.prog okT 17 [.agg ⟨cs⟩, .agg ⟨cs'⟩] H fun v H' => v = .tuple #[.int .i64 (ordT t t'), .int .i64 0] ∧ HX H H' :=
  (compare_ev r r' hw).mono fun v H' hv => by
    have h0 := chk_two'.2 ⟨h, h'⟩
    rw [if_pos h0, h0] at hv; exact hv
theorem three_of {x : Int} (h : -1 ≤ x ∧ x ≤ 1) : x = -1 ∨ x = 0 ∨ x = 1 := by omega

-- hornbeamlaw02.TermOneOrder
set_option maxHeartbeats 8000000 in
theorem termOneOrder_ev {t t' t2 : Tm} {cs cs' cs2 : List Value} {H : Heap} (r : RepT H t cs) (r' : RepT H t' cs') (r2 : RepT H t2 cs2) (hw : H.wf) :
    EvF Tryd.prog okT 6 [.agg ⟨cs⟩, .agg ⟨cs'⟩, .agg ⟨cs2⟩] H fun v _ => v = .bool true := by
  have r0 := r; have r0' := r'; have r02 := r2
  obtain ⟨a, c, cells, rfl, -⟩ := r.six
  obtain ⟨a', c', cells', rfl, -⟩ := r'.six
  obtain ⟨a2, c2, cells2, rfl, -⟩ := r2.six
  refine EvF.enter rfl Tryd.func6 (by decide) rfl ?_
  (repeat refine EvC.seq ?_); refine EvC.reg ?_; simp (config := { maxSteps := 2000000 }) (disch := first | omega | rfl) only [initTm, EL_cons, EL_nil, LX_val, dop_box, dBox, dop_assign, ev_const, ev_tmp, Tr.get_put, put_some, Nat.reduceEqDiff, Option.getD_some, Nat.reduceAdd, Nat.zero_add, Value.cells, List.all_cons, List.all_nil, one, Bool.and_self, reduceCtorEq, if_true, if_false, next_new, thenC_normal]
  obtain ⟨H2, e2, hx, gp, gq, gr, hnx, hw2⟩ := new3 hw (.row (six t a c) 26) (.row (six t' a' c') 26) (.row (six t2 a2 c2) 26)
  simp only [e2]
  clear e2
  repeat' (first | refine EvC.seq ?_ | refine EvC.scope ?_ | refine EvC.block ?_ | (refine EvC.skip ?_) | (refine EvC.exit ?_) | (refine EvC.ret ?_; try simp only [thenC_ret, inBlock_ret]) | (refine EvC.reg ?_; simp (config := { maxSteps := 2000000 }) (disch := first | omega | rfl) only [EL_cons, EL_nil, LX_val, LX_call, dop_assign, ev_tmp, Tr.get_put, put_some, Nat.reduceEqDiff, Option.getD_some, reduceCtorEq, if_true, if_false, List.map_nil, thenC_normal, cl12]))
  refine (awake_tells hw2).mono ?_
  rintro v H3 ⟨rfl, hx3⟩
  have gp := hx3.get hw2 gp; have gq := hx3.get hw2 gq; have gr := hx3.get hw2 gr
  have q1 := row6 gp; have q2 := row6 gq; have q3 := row6 gr
  have hx := hx.trans hx3
  repeat' (first | refine EvC.seq ?_ | refine EvC.scope ?_ | refine EvC.block ?_ | (refine EvC.skip ?_) | (refine EvC.exit ?_) | (refine EvC.ret ?_; try simp only [thenC_ret, inBlock_ret]) | (refine EvC.reg ?_; simp (config := { maxSteps := 2000000 }) (disch := first | omega | rfl) only [EL_cons, LX_val, LX_call, dop_load, dop_bin, ev_const, ev_tmp, Tr.get_put, put_some, Nat.reduceEqDiff, Option.getD_some, Nat.reduceAdd, Nat.zero_add, Value.cells, List.all_cons, List.all_nil, one, Bool.and_self, reduceCtorEq, if_true, if_false, dloadA_some, List.drop_succ_cons, List.drop_zero, List.length_cons, List.length_nil, List.map_cons, List.map_nil, splice_zero, splice_succ, List.cons_append, List.nil_append, List.append_nil, Nat.reduceLeDiff, Nat.le_refl, and_self, List.drop_nil, thenC_normal, List.getElem?_cons_succ, List.getElem?_cons_zero, layC, dop_buildSlice, dBs_true, ld26, bs24_3, cl18, q1, q2, q3]))
  obtain ⟨H6, e6, hx6, g6, hn6, hw6⟩ := new1 hx.wf (.row (six t a c ++ six t' a' c' ++ six t2 a2 c2) 26)
  have e6' := e6
  simp only [six, List.cons_append, List.nil_append] at e6'
  simp only [e6']
  have gp := hx6.get hx.wf gp; have gq := hx6.get hx.wf gq; have gr := hx6.get hx.wf gr
  have hx := hx.trans hx6
  refine (first_ev (RepL.three (r0.mono hx hw) (r0'.mono hx hw) (r02.mono hx hw) g6) hw6).mono ?_
  rintro v H7 ⟨rfl, hx7⟩
  have gp := hx7.get hx.wf gp; have gq := hx7.get hx.wf gq; have gr := hx7.get hx.wf gr
  have q1 := row6 gp; have q2 := row6 gq; have q3 := row6 gr
  have hx := hx.trans hx7
  by_cases h0 : chkL [t, t', t2] = 0
  rotate_left
  · repeat' (first | refine EvC.seq ?_ | refine EvC.scope ?_ | refine EvC.block ?_ | (refine EvC.skip ?_) | (refine EvC.exit ?_) | (refine EvC.ret ?_; try simp only [thenC_ret, inBlock_ret]) | (refine EvC.reg ?_; simp (config := { maxSteps := 2000000 }) (disch := first | omega | rfl) only [EL_cons, EL_nil, LX_val, dop_assign, dop_move, ev_tmp, Tr.get_put, put_some, Nat.reduceEqDiff, Option.getD_some, reduceCtorEq, if_true, if_false, thenC_normal]) | (refine LX_go ?_; simp (config := { maxSteps := 2000000 }) (disch := first | omega | rfl) only [EL_nil, LX_val, put_some, dBin_neq, ine_t h0]) | (refine EvC.condT ?_ ?_; simp (config := { maxSteps := 2000000 }) (disch := first | omega | rfl) only [ev_tmp, Tr.get_put, Nat.reduceEqDiff, Option.getD_some, reduceCtorEq, if_true, if_false]; refine EvC_go ?_))
    exact leave_one rfl (by first | (simp only [Tr.get_put, Nat.reduceEqDiff, reduceCtorEq, if_true, if_false]; rfl) | simp only [Tr.get_put, Nat.reduceEqDiff, reduceCtorEq, if_true, if_false]) rfl
  obtain ⟨k1, k2, k3⟩ := chk_three.1 h0
  have f1 := (check_zero.1 k1).2; have f2 := (check_zero.1 k2).2; have f3 := (check_zero.1 k3).2
  repeat' (first | refine EvC.seq ?_ | refine EvC.scope ?_ | refine EvC.block ?_ | (refine EvC.skip ?_; try simp only [thenC_normal]) | (refine EvC.exit ?_) | (refine EvC.ret ?_; try simp only [thenC_ret, inBlock_ret]) | (refine EvC.reg ?_; simp (config := { maxSteps := 2000000 }) (disch := first | omega | rfl) only [EL_cons, LX_val, LX_call, dop_move, dop_load, ev_tmp, Tr.get_put, put_some, Nat.reduceEqDiff, Option.getD_some, reduceCtorEq, if_true, if_false, dloadA_some, List.map_cons, List.map_nil, thenC_normal, dop_extract, ld26, cl17, q1, q2]) | (refine LX_go ?_; simp (config := { maxSteps := 2000000 }) (disch := first | omega | rfl) only [EL_nil, LX_val, put_some, dBin_neq, ine_f h0]) | (refine EvC.condT ?_ ?_; simp (config := { maxSteps := 2000000 }) (disch := first | omega | rfl) only [ev_tmp, Tr.get_put, Nat.reduceEqDiff, Option.getD_some, reduceCtorEq, if_true, if_false]; refine EvC_go ?_) | (refine EvC.condF ?_ ?_; simp (config := { maxSteps := 2000000 }) (disch := first | omega | rfl) only [ev_tmp, Tr.get_put, Nat.reduceEqDiff, Option.getD_some, reduceCtorEq, if_true, if_false]; refine EvC_go ?_))
  refine (compare_ok (r0.mono hx hw) (r0'.mono hx hw) hx.wf k1 k2).mono ?_
  rintro v H8 ⟨rfl, hx8⟩
  have gp := hx8.get hx.wf gp; have gq := hx8.get hx.wf gq; have gr := hx8.get hx.wf gr
  have q1 := row6 gp; have q2 := row6 gq; have q3 := row6 gr
  have hx := hx.trans hx8
  repeat' (first | refine EvC.seq ?_ | refine EvC.scope ?_ | refine EvC.block ?_ | (refine EvC.skip ?_) | (refine EvC.exit ?_) | (refine EvC.ret ?_; try simp only [thenC_ret, inBlock_ret]) | (refine EvC.reg ?_; simp (config := { maxSteps := 2000000 }) (disch := first | omega | rfl) only [EL_cons, LX_val, LX_call, dop_move, dop_load, ev_tmp, Tr.get_put, put_some, Nat.reduceEqDiff, Option.getD_some, reduceCtorEq, if_true, if_false, dloadA_some, List.map_cons, List.map_nil, thenC_normal, dop_extract, ld26, cl17, q2, q3]) | (refine LX_go ?_; simp (config := { maxSteps := 2000000 }) (disch := first | omega | rfl) only [EL_cons, EL_nil, LX_val, dop_assign, ev_tmp, Tr.get_put, put_some, Nat.reduceEqDiff, Option.getD_some, reduceCtorEq, if_true, if_false, dop_extract, dExt_0, dExt_1]))
  refine (compare_ok (r0'.mono hx hw) (r02.mono hx hw) hx.wf k2 k3).mono ?_
  rintro v H9 ⟨rfl, hx9⟩
  have gp := hx9.get hx.wf gp; have gq := hx9.get hx.wf gq; have gr := hx9.get hx.wf gr
  have q1 := row6 gp; have q2 := row6 gq; have q3 := row6 gr
  have hx := hx.trans hx9
  repeat' (first | refine EvC.seq ?_ | refine EvC.scope ?_ | refine EvC.block ?_ | (refine EvC.skip ?_) | (refine EvC.exit ?_) | (refine EvC.ret ?_; try simp only [thenC_ret, inBlock_ret]) | (refine EvC.reg ?_; simp (config := { maxSteps := 2000000 }) (disch := first | omega | rfl) only [EL_cons, LX_val, LX_call, dop_move, dop_load, ev_tmp, Tr.get_put, put_some, Nat.reduceEqDiff, Option.getD_some, reduceCtorEq, if_true, if_false, dloadA_some, List.map_cons, List.map_nil, thenC_normal, dop_extract, ld26, cl17, q1, q3]) | (refine LX_go ?_; simp (config := { maxSteps := 2000000 }) (disch := first | omega | rfl) only [EL_cons, EL_nil, LX_val, dop_assign, ev_tmp, Tr.get_put, put_some, Nat.reduceEqDiff, Option.getD_some, reduceCtorEq, if_true, if_false, dop_extract, dExt_0, dExt_1]))
  refine (compare_ok (r0.mono hx hw) (r02.mono hx hw) hx.wf k1 k3).mono ?_
  rintro v H10 ⟨rfl, hx10⟩
  have gp := hx10.get hx.wf gp; have gq := hx10.get hx.wf gq; have gr := hx10.get hx.wf gr
  have q1 := row6 gp; have q2 := row6 gq; have q3 := row6 gr
  have hx := hx.trans hx10
  repeat' (first | refine EvC.seq ?_ | refine EvC.scope ?_ | refine EvC.block ?_ | (refine EvC.skip ?_) | (refine EvC.exit ?_) | (refine EvC.ret ?_; try simp only [thenC_ret, inBlock_ret]) | (refine EvC.reg ?_; simp (config := { maxSteps := 2000000 }) (disch := first | omega | rfl) only [EL_cons, LX_val, LX_call, dop_move, dop_load, ev_tmp, Tr.get_put, put_some, Nat.reduceEqDiff, Option.getD_some, reduceCtorEq, if_true, if_false, dloadA_some, List.map_cons, List.map_nil, thenC_normal, dop_extract, ld26, cl17, q1, q3]) | (refine LX_go ?_; simp (config := { maxSteps := 2000000 }) (disch := first | omega | rfl) only [EL_cons, EL_nil, LX_val, dop_assign, ev_tmp, Tr.get_put, put_some, Nat.reduceEqDiff, Option.getD_some, reduceCtorEq, if_true, if_false, dop_extract, dExt_0, dExt_1]))
  refine (compare_ok (r02.mono hx hw) (r0.mono hx hw) hx.wf k3 k1).mono ?_
  rintro v H11 ⟨rfl, hx11⟩
  have gp := hx11.get hx.wf gp; have gq := hx11.get hx.wf gq; have gr := hx11.get hx.wf gr
  have q1 := row6 gp; have q2 := row6 gq; have q3 := row6 gr
  have hx := hx.trans hx11
  repeat' (first | refine EvC.seq ?_ | refine EvC.scope ?_ | refine EvC.block ?_ | (refine EvC.skip ?_) | (refine EvC.exit ?_) | (refine EvC.ret ?_; try simp only [thenC_ret, inBlock_ret]) | (refine EvC.reg ?_; simp (config := { maxSteps := 2000000 }) (disch := first | omega | rfl) only [EL_cons, EL_nil, LX_val, LX_call, dop_assign, dop_load, ev_tmp, Tr.get_put, put_some, Nat.reduceEqDiff, Option.getD_some, reduceCtorEq, if_true, if_false, dloadA_some, List.map_cons, List.map_nil, thenC_normal, ld26, cl20, q1, q2]) | (refine LX_go ?_; simp (config := { maxSteps := 2000000 }) (disch := first | omega | rfl) only [EL_cons, EL_nil, LX_val, dop_assign, ev_tmp, Tr.get_put, put_some, Nat.reduceEqDiff, Option.getD_some, reduceCtorEq, if_true, if_false, dop_extract, dExt_0, dExt_1]))
  refine (same_tells (r0.mono hx hw) (r0'.mono hx hw) hx.wf).mono ?_
  rintro v H12 ⟨rfl, hx12⟩
  have hT := TT.terms _ t t' t2 (Nat.lt_succ_self _) f1 f2 f3
  have hs : eqT t t' = (ordT t t' == 0) := by
    by_cases h : ordT t t' = 0
    · rw [ieq_t h]; exact eqT_t (ordT_zero _ (Nat.lt_succ_self _) f1 f2 (RepT.u64s r0) (RepT.u64s r0') h)
    · rw [ieq_f h]; exact eqT_f fun e => h (by rw [e]; exact ordT_self t')
  have hanti : ordT t2 t = -(ordT t t2) := ordT_anti _ _
  rw [hs, hanti]
  have hbb : ∀ b : Bool, (b == b) = true := fun b => beq_self_eq_true b
  have l1 := three_of (ordT_range t t'); have l2 := three_of (ordT_range t' t2); have l3 := three_of (ordT_range t t2)
  generalize ordT t t' = x at *
  generalize ordT t' t2 = y at *
  generalize ordT t t2 = z at *
  clear hs hanti f1 f2 f3 k1 k2 k3 hx3 hx6 hx7 hx8 hx9 hx10 hx11 q1 q2 q3 gp gq gr
  have n1 : (0 : Int) - -1 = 1 := rfl
  have n2 : (0 : Int) - 1 = -1 := rfl
  have n3 : (0 : Int) - 0 = 0 := rfl
  have n4 : (0 : Int) - - -1 = -1 := rfl
  have n5 : (0 : Int) - -0 = 0 := rfl
  have z1 : ((-1 : Int) == 0) = false := rfl
  have z2 : ((1 : Int) == 0) = false := rfl
  have z3 : ((0 : Int) == 0) = true := rfl
  have z4 : ((-1 : Int) == -1) = true := rfl
  have z5 : ((1 : Int) == 1) = true := rfl
  refine EvC.frame (fun tm => tm.get 7 = some (.bool true) ∧ tm.get 8 = some (.int .i64 x) ∧ tm.get 10 = some (.int .i64 y) ∧ tm.get 12 = some (.int .i64 z) ∧ tm.get 14 = some (.int .i64 (-z)) ∧ tm.get 16 = some (.bool (x == 0))) ⟨(by first | (simp only [Tr.get_put, Nat.reduceEqDiff, reduceCtorEq, if_true, if_false]; rfl) | simp only [Tr.get_put, Nat.reduceEqDiff, reduceCtorEq, if_true, if_false]), (by first | (simp only [Tr.get_put, Nat.reduceEqDiff, reduceCtorEq, if_true, if_false]; rfl) | simp only [Tr.get_put, Nat.reduceEqDiff, reduceCtorEq, if_true, if_false]), (by first | (simp only [Tr.get_put, Nat.reduceEqDiff, reduceCtorEq, if_true, if_false]; rfl) | simp only [Tr.get_put, Nat.reduceEqDiff, reduceCtorEq, if_true, if_false]), (by first | (simp only [Tr.get_put, Nat.reduceEqDiff, reduceCtorEq, if_true, if_false]; rfl) | simp only [Tr.get_put, Nat.reduceEqDiff, reduceCtorEq, if_true, if_false]), (by first | (simp only [Tr.get_put, Nat.reduceEqDiff, reduceCtorEq, if_true, if_false]; rfl) | simp only [Tr.get_put, Nat.reduceEqDiff, reduceCtorEq, if_true, if_false]), (by first | (simp only [Tr.get_put, Nat.reduceEqDiff, reduceCtorEq, if_true, if_false]; rfl) | simp only [Tr.get_put, Nat.reduceEqDiff, reduceCtorEq, if_true, if_false])⟩ ?_
  rintro tm ⟨t7, t8, t10, t12, t14, t16⟩
  rcases l1 with rfl | rfl | rfl <;> rcases l2 with rfl | rfl | rfl <;> rcases l3 with rfl | rfl | rfl
  all_goals first
    | (exfalso; unfold TT at hT; omega)
    | (refine ?_)
  all_goals
    repeat' (first | refine EvC.seq ?_ | refine EvC.scope ?_ | refine EvC.block ?_ | (refine EvC.skip ?_) | (refine EvC.exit ?_) | (refine EvC.ret ?_; try simp only [thenC_ret, inBlock_ret]) | (refine EvC.reg ?_; simp (config := { maxSteps := 2000000 }) (disch := first | omega | rfl) only [EL_cons, EL_nil, EL_guard, LX_val, LG_tt, LG_tf, dop_assign, dop_move, dop_pick, dPick_bool, dop_bin, dBin_lss, dBin_gtr, ev_const, ev_tmp, Tr.get_put, put_some, Nat.reduceEqDiff, Option.getD_some, if_true, if_false, thenC_normal, guardOf_eq, guardGet_some, List.getElem?_cons_succ, List.getElem?_cons_zero, dBin_leq, dBin_geq, dBin_eql, dop_un, un_not, t7, t8, t10, t12, t14, t16, bEqB Tryd.underlying4, hbb, bNegI, wrap_i64, z1, z2, z3, z4, z5, n1, n2, n5, decide_eq_true, decide_eq_false, Bool.false_eq_true, Bool.not_false, Int.neg_neg]))
  all_goals exact leave_one rfl (by first | (simp only [Tr.get_put, Nat.reduceEqDiff, if_true, if_false]; rfl) | simp only [Tr.get_put, Nat.reduceEqDiff, if_true, if_false]) rfl
end Go.Proofs.YtlllbkjiadcloaaDoor.hb
end

-- Fm
section
/- The abstract machine in small pieces (made by genfm.py out of its text): the same runs, cheap for the kernel. -/
namespace Go.Hb
open Go Go.RowKit

def o1 (P : Program) (o : Oper) (ρ : Operand → Value) (H : Heap) : Option Dr :=
  match o.op with
  | .pick c a b => match ρ c with
    | .bool true => some (.val (ρ a) H)
    | .bool false => some (.val (ρ b) H)
    | _ => none
  | _ => none

def o2 (P : Program) (o : Oper) (ρ : Operand → Value) (H : Heap) : Option Dr :=
  match o.op with
  | .alloc e => match pureRun P (zeroValue e) with
    | some z => if flat z && z.cells.toList.all one then some (.val (.pointer (some ⟨H.next, 0, none⟩)) (H.new (some (.row z.cells.toList e)))) else none
    | none => none
  | _ => none

def o3 (P : Program) (o : Oper) (ρ : Operand → Value) (H : Heap) : Option Dr :=
  match o.op with
  | .box e x => let v := ρ x
    if v.cells.toList.all one then some (.val (.pointer (some ⟨H.next, 0, none⟩)) (H.new (some (.row v.cells.toList e)))) else none
  | _ => none

def o4 (P : Program) (o : Oper) (ρ : Operand → Value) (H : Heap) : Option Dr :=
  match o.op with
  | .build t parts => if parts.toList.all (fun p => (ρ p.2).cells.toList.all one) && zflat P t then
      match pureRun P (Instr.build t (parts.map fun (i, x) => (i, ρ x))) with
      | some v => some (.val v H)
      | none => none
    else none
  | _ => none

def o5 (P : Program) (o : Oper) (ρ : Operand → Value) (H : Heap) : Option Dr :=
  match o.op with
  | .buildSlice t len parts => match P.underlying t with
    | some (.slice e) => match P.info? e with
      | some i => match i.zero with
        | some z =>
          let size := i.size
          if len ≤ most ∧ len * size ≤ most ∧ flat z = true ∧ z.cells.size = size ∧ z.cells.toList.all one = true ∧ parts.toList.all (fun p => (ρ p.2).cells.toList.all one) = true then
            match Instr.fill (fun i => some (i * size, size)) ((Array.range (len * size)).map (z.cells[· % z.cells.size]!)) (parts.toList.map fun p => (p.1, ρ p.2)) with
            | some cells => some (.val (.slice (some ⟨H.next, 0, none⟩) len len) (H.new (some (.row cells.toList e))))
            | none => none
          else none
        | none => none
      | none => none
    | _ => none
  | _ => none

def o6 (P : Program) (o : Oper) (ρ : Operand → Value) (H : Heap) : Option Dr :=
  match o.op with
  | .load t a => match ρ a with
    | .pointer (some ad) => (dload P t ad H).map (.val · H)
    | _ => none
  | _ => none

def o7 (P : Program) (o : Oper) (ρ : Operand → Value) (H : Heap) : Option Dr :=
  match o.op with
  | .store t a x => match ρ a with
    | .pointer (some ad) => let v := ρ x
      if Nat.beq v.cells.size (P.cellsOf t) && (P.info? t).isSome then (H.store ad v.cells.toList).map (.val undef ·) else none
    | _ => none
  | _ => none

def o8 (P : Program) (o : Oper) (ρ : Operand → Value) (H : Heap) : Option Dr :=
  match o.op with
  | .nilCheck x => match ρ x with
    | .pointer (some a) => some (.val (.pointer (some a)) H)
    | .func (.func f) a b => some (.val (.func (.func f) a b) H)
    | _ => none
  | _ => none

def o9 (P : Program) (o : Oper) (ρ : Operand → Value) (H : Heap) : Option Dr :=
  match o.op with
  | .binOp op t x y _ => match dnil P op t (ρ x) (ρ y) with
    | some v => some (.val v H)
    | none => dflat P o ρ H
  | _ => none

def o11 (P : Program) (o : Oper) (ρ : Operand → Value) (H : Heap) : Option Dr :=
  match o.op with
  | .convert src dst x => match P.underlying src, P.underlying dst, ρ x with
    | some (.slice e), some .string, .slice a n c => match P.underlying e with
      | some (.int .u8) => (dbytes (.slice a n c) H).map (.val · H)
      | _ => none
    | _, some (.slice _), _ => none
    | _, _, _ => dflat P o ρ H
  | _ => none

def o12 (P : Program) (o : Oper) (ρ : Operand → Value) (H : Heap) : Option Dr :=
  match o.op with
  | .makeInterface t x => match P.underlying t with
    | some (.interface _) => none
    | some _ => some (.val (.iface t (ρ x)) H)
    | none => none
  | _ => none

def o13 (P : Program) (o : Oper) (ρ : Operand → Value) (H : Heap) : Option Dr :=
  match o.op with
  | .makeFunc fn first captured => match fn with
    | .func f => some (.val (.func (.func f) (first.map ρ) (captured.map ρ)) H)
    | _ => none
  | _ => none

def o14 (P : Program) (o : Oper) (ρ : Operand → Value) (H : Heap) : Option Dr :=
  match o.op with
  | .makeMap _ none => some (.val (.map (some H.next)) (H.new (some (.map [] 0))))
  | _ => none

def o15 (P : Program) (o : Oper) (ρ : Operand → Value) (H : Heap) : Option Dr :=
  match o.op with
  | .makeSlice t l c => match P.underlying t with
    | some (.slice e) => match P.info? e, intBetween (ρ c) most with
      | some i, some cap => match i.zero, intBetween (ρ l) cap with
        | some z, some len =>
          let size := i.size
          if flat z = true ∧ z.cells.size = size ∧ i.bytes ≤ 4096 ∧ z.cells.toList.all one = true then
            some (.val (.slice (some ⟨H.next, 0, none⟩) len cap) (H.new (some (.row ((List.range (cap * size)).map (z.cells[· % z.cells.size]!)) e))))
          else none
        | _, _ => none
      | _, _ => none
    | _ => none
  | _ => none

def o16 (P : Program) (o : Oper) (ρ : Operand → Value) (H : Heap) : Option Dr :=
  match o.op with
  | .slice t x lo hi mx => match ρ x with
    | .string _ => dflat P o ρ H
    | v => dslice P t v (lo.map ρ) (hi.map ρ) (mx.map ρ) H
  | _ => none

def o17 (P : Program) (o : Oper) (ρ : Operand → Value) (H : Heap) : Option Dr :=
  match o.op with
  | .fieldAddr s x f => match P.underlying s, ρ x with
    | some (.struct fs), .pointer (some a) => match fs.toList[f]? with
      | some fd => if a.spot.isNone && !(Nat.beq (P.cellsOf fd.type) 0) then some (.val (.pointer (some ⟨a.block, a.off + fd.offset, none⟩)) H) else none
      | none => none
    | _, _ => none
  | _ => none

def o18 (P : Program) (o : Oper) (ρ : Operand → Value) (H : Heap) : Option Dr :=
  match o.op with
  | .field t x f => match P.underlying t, ρ x with
    | some (.struct fs), .agg cs => match fs.toList[f]? with
      | some fd => (dpart P fd.type cs fd.offset).map (.val · H)
      | none => none
    | _, _ => none
  | _ => none

def o19 (P : Program) (o : Oper) (ρ : Operand → Value) (H : Heap) : Option Dr :=
  match o.op with
  | .indexAddr t x ix => match P.underlying t, ρ x with
    | some (.slice e), .slice (some a) n _ => match intBetween (ρ ix) (n - 1), Nat.beq n 0, a.spot, (P.info? e).isSome with
      | some i, false, none, true => some (.val (.pointer (some ⟨a.block, a.off + i * P.cellsOf e, none⟩)) H)
      | _, _, _, _ => none
    | some (.array n e), .pointer (some a) => match intBetween (ρ ix) (n - 1), Nat.beq n 0, a.spot, (P.info? e).isSome with
      | some i, false, none, true => some (.val (.pointer (some ⟨a.block, a.off + i * P.cellsOf e, none⟩)) H)
      | _, _, _, _ => none
    | _, _ => none
  | _ => none

def o20 (P : Program) (o : Oper) (ρ : Operand → Value) (H : Heap) : Option Dr :=
  match o.op with
  | .index t x ix => match P.underlying t, ρ x with
    | some (.array n e), .agg cs => match intBetween (ρ ix) (n - 1), Nat.beq n 0 with
      | some i, false => (dpart P e cs (i * P.cellsOf e)).map (.val · H)
      | _, _ => none
    | _, _ => dflat P o ρ H
  | _ => none

def o24 (P : Program) (o : Oper) (ρ : Operand → Value) (H : Heap) : Option Dr :=
  match o.op with
  | .typeAssert x xt at_ ok => match ρ x with
    | .iface t v => (dassert P t v at_ ok).map (.val · H)
    | _ => dflat P o ρ H
  | _ => none

def o25 (P : Program) (o : Oper) (ρ : Operand → Value) (H : Heap) : Option Dr :=
  match o.op with
  | .extract t ix => match ρ t with
    | .tuple vs => (vs.toList[ix]?).map (.val · H)
    | _ => none
  | _ => none

def o26 (P : Program) (o : Oper) (ρ : Operand → Value) (H : Heap) : Option Dr :=
  match o.op with
  | .range t x => match P.underlying t, ρ x with
    | some .string, .string s => some (.val (.pointer (some ⟨H.next, 0, none⟩)) (H.new (some (.siter s 0))))
    | _, _ => none
  | _ => none

def o27 (P : Program) (o : Oper) (ρ : Operand → Value) (H : Heap) : Option Dr :=
  match o.op with
  | .next it true => match ρ it with
    | .pointer (some ⟨r, 0, _⟩) => match H.get r with
      | some (.siter s pos) =>
        if pos < s.size then
          let (c, width) := Utf8.decode s pos
          some (.val (.tuple #[.bool true, goInt pos, .int .i32 c]) (H.put r (some (.siter s (pos + width)))))
        else some (.val (.tuple #[.bool false]) H)
      | _ => none
    | _ => none
  | _ => none

def o28 (P : Program) (o : Oper) (ρ : Operand → Value) (H : Heap) : Option Dr :=
  match o.op with
  | .call c => match c.callee with
    | .builtin b => match b, c.args.toList with
      | .len, [x] => match ρ x with
        | .slice _ n _ => match (c.argTypes[0]?).bind P.underlying with
          | some (.slice _) => some (.val (goInt n) H)
          | _ => none
        | .map (some r) => match (c.argTypes[0]?).bind P.underlying, H.get r with
          | some (.map _ _), some (.map es _) => some (.val (goInt es.length) H)
          | _, _ => none
        | _ => dflat P o ρ H
      | .append, [s, x] => match c.argTypes.toList with
        | [t, xt] => match dzeros P t xt (ρ s) (ρ x) H with
          | some r => some r
          | none => dappend P c.argTypes (ρ s) (ρ x) H
        | _ => none
      | .cap, _ => dflat P o ρ H
      | .copy, [d, x] => dcopy P c.argTypes (ρ d) (ρ x) H
      | .delete, [m, k] => match c.argTypes[0]? with
        | some t => ddelete P t (ρ m) (ρ k) H
        | none => none
      | .recover, [] => some .recov
      | .min, _ | .max, _ => dflat P o ρ H
      | _, _ => none
    | .value f => match ρ f with
      | .func (.func f) first captured =>
        match dcall1 P f (first.toList ++ c.args.toList.map ρ ++ captured.toList) with
        | some r => some r
        | none => dflat P o ρ H
      | .func (.yield l) first _ => some (.yield l (first.toList ++ c.args.toList.map ρ))
      | _ => none
    | _ => none
  | _ => none

def o29 (P : Program) (o : Oper) (ρ : Operand → Value) (H : Heap) : Option Dr :=
  match o.op with
  | .defer c => match c.callee with
    | .value f => match ρ f with
      | .func (.func f) first captured => some (.dfr { target := .fn (.func f) captured, args := first ++ c.args.map ρ })
      | _ => none
    | _ => none
  | _ => none

def o30 (P : Program) (o : Oper) (ρ : Operand → Value) (H : Heap) : Option Dr :=
  match o.op with
  | .panic x => match ρ x with
    | .iface t v => some (.panic (.iface t v))
    | _ => none
  | _ => none

/-- plain arithmetic of integers of one kind -/
def fInt (op : BinOp) (k : IntKind) (a b : Int) : Option Value :=
  match op with
  | .add => some (.int k (k.wrap (a + b)))
  | .sub => some (.int k (k.wrap (a - b)))
  | .mul => some (.int k (k.wrap (a * b)))
  | .eql => some (.bool (a == b))
  | .neq => some (.bool (a != b))
  | .lss => some (.bool (decide (a < b)))
  | .leq => some (.bool (decide (a ≤ b)))
  | .gtr => some (.bool (decide (a > b)))
  | .geq => some (.bool (decide (a ≥ b)))
  | _ => none

def fop0 (P : Program) (o : Oper) (ρ : Operand → Value) (H : Heap) : Option Dr :=
  match o.op with
  | .move x | .assign x => some (.val (ρ x) H)
  | .pick c a b => o1 P o ρ H
  | .alloc e => o2 P o ρ H
  | .box e x => o3 P o ρ H
  | .build t parts => o4 P o ρ H
  | .buildSlice t len parts => o5 P o ρ H
  | .load t a => o6 P o ρ H
  | .store t a x => o7 P o ρ H
  | .nilCheck x => o8 P o ρ H
  | .binOp op t x y _ => o9 P o ρ H
  | .unOp .. => dflat P o ρ H
  | .convert src dst x => o11 P o ρ H
  | .makeInterface t x => o12 P o ρ H
  | .makeFunc fn first captured => o13 P o ρ H
  | .makeMap _ none => o14 P o ρ H
  | .makeSlice t l c => o15 P o ρ H
  | .slice t x lo hi mx => o16 P o ρ H
  | .fieldAddr s x f => o17 P o ρ H
  | .field t x f => o18 P o ρ H
  | .indexAddr t x ix => o19 P o ρ H
  | .index t x ix => o20 P o ρ H
  | .lookup t m k ok => dlookup P t (ρ m) (ρ k) ok H
  | .mapUpdate t m k x => dupdate P t (ρ m) (ρ k) (ρ x) H
  | .insert t m k x => dupdate P t (ρ m) (ρ k) (ρ x) H
  | .typeAssert x xt at_ ok => o24 P o ρ H
  | .extract t ix => o25 P o ρ H
  | .range t x => o26 P o ρ H
  | .next it true => o27 P o ρ H
  | .call c => o28 P o ρ H
  | .defer c => o29 P o ρ H
  | .panic x => o30 P o ρ H
  | _ => none

theorem fop0_eq (P : Program) (o : Oper) (ρ : Operand → Value) (H : Heap) : fop0 P o ρ H = dop P o ρ H := by
  obtain ⟨dst, op, ty, pos, af, g⟩ := o
  cases op <;> first | rfl | (rename_i a b; cases b <;> rfl)

def fBin (P : Program) (o : Oper) (ρ : Operand → Value) (H : Heap) (op : BinOp) (x y : Value) : Option Dr :=
  match x, y with
  | .int k a, .int k' b => match Nat.beq k.ctorIdx k'.ctorIdx, fInt op k a b with
    | true, some v => some (.val v H)
    | _, _ => fop0 P o ρ H
  | _, _ => fop0 P o ρ H

def fop (P : Program) (o : Oper) (ρ : Operand → Value) (H : Heap) : Option Dr :=
  match o.op with
  | .binOp op _ x y _ => fBin P o ρ H op (ρ x) (ρ y)
  | _ => fop0 P o ρ H

theorem fBin_eq {P : Program} {d : Option Tmp} {ty : TypeId} {pos : String} {af : Array Edge} {g : Option (Nat × Bool)} {ρ : Operand → Value} {H : Heap} {op : BinOp} {t u : TypeId} {x y : Operand} :
    fBin P ⟨d, .binOp op t x y u, ty, pos, af, g⟩ ρ H op (ρ x) (ρ y) = dop P ⟨d, .binOp op t x y u, ty, pos, af, g⟩ ρ H := by
  unfold fBin
  split
  · rename_i k a k' b hx hy
    split
    · rename_i v hk hv
      rw [Nat.beq_eq] at hk
      have hkk : k = k' := by cases k <;> cases k' <;> first | rfl | (simp [IntKind.ctorIdx] at hk)
      subst hkk
      show _ = dBin P op t x y (ρ x) (ρ y) H
      rw [hx, hy]
      unfold fInt at hv
      split at hv <;> cases hv
      all_goals (simp [dBin, dnil, flat, eqGuard, binOp, Op.intArith, Op.intCmp, Sem.bind]; rfl)
    · exact fop0_eq _ _ _ _
  · exact fop0_eq _ _ _ _

theorem fop_eq (P : Program) (o : Oper) (ρ : Operand → Value) (H : Heap) : fop P o ρ H = dop P o ρ H := by
  obtain ⟨dst, op, ty, pos, af, g⟩ := o
  cases op <;> first | exact fBin_eq | (unfold fop; exact fop0_eq _ _ _ _)

/-- the machine's functions, with so much fuel -/
structure Rec where
  code : Ctx → Code → St → Option (Ex × St)
  seq : Ctx → List Code → St → Option (Ex × St)
  ops : Ctx → Array Oper → List Nat → St → Option (Ex × St)
  op1 : Ctx → Oper → (Operand → Value) → List Deferred → Heap → Option R1
  draw : Ctx → Array Oper → Array Nat → List Nat → Nat → List Nat → Nat → List Heap → Tr Value → List Deferred → Option St
  stage : Ctx → Array Oper → Array Nat → List Nat → Nat → List Nat → Nat → List Heap → Tr Value → List Deferred → Option St
  call : FuncId → List Value → Heap → Option (En × Heap)
  leave : Func → Tr Value → List Deferred → Option (List PanicEntry) → Heap → Option (En × Heap)
  round : Nat → List Value → Heap → Option (Value × Heap)

def codeF (P : Program) (ok : Ok) (rr : Rec) : Ctx → Code → St → Option (Ex × St)
  | x, c, st =>
    match c with
    | .skip | .label _ => some (.normal, st)
    | .region _ ops false => rr.ops x ops (List.range ops.size) st
    | .region _ ops true =>
      let effs := (List.range ops.size).filter fun i => match ops[i]? with | some o => isEff o | none => false
      match rr.draw x ops (Region.before ops) effs st.H.next effs 0 [⟨st.H.next + ops.size, st.H.t⟩] st.tm st.ds with
      | some st1 => some (.normal, st1)
      | none => none
    | .seq a b => match rr.code x a st with
      | some (.normal, st1) => rr.code x b st1
      | r => r
    | .cond c a b => match ev st.tm c with
      | .bool true => rr.code x a st
      | .bool false => rr.code x b st
      | _ => none
    | .block id b => match rr.code x b st with
      | some (.exit j, st1) => if Nat.beq j id then some (.normal, st1) else some (.exit j, st1)
      | r => r
    | .scope b => rr.code x b st
    | .loop b => match rr.code x b st with
      | some (.normal, st1) => rr.code x (.loop b) st1
      | r => r
    | .exit id => some (.exit id, st)
    | .ret => some (.ret, st)
    | .rangeFunc f params assign body =>
      match x.round, ev st.tm f with
      | none, .func (.func g) first captured =>
        if (dcall1 P g []).isNone then none else
        let dl := st.H.next
        let H1 := st.H.new (some .dfr)
        let l := H1.next
        let H2 := H1.new (some (.loop .ready none x.fn st.tm params.toList assign body dl))
        match rr.call g (first.toList ++ [.func (.yield l) #[] #[]] ++ captured.toList) H2 with
        | some (.ret _, H3) => match H3.get l with
          | some (.loop s pend fn tm ps ags bo dd) => match s with
            | .busy => none
            | _ =>
              let H4 := H3.put l (some (.loop .exhausted pend fn tm ps ags bo dd))
              let st1 : St := ⟨st.tm, { target := .collected dl, args := #[] } :: st.ds, H4⟩
              match pend with
              | none => some (.normal, st1)
              | some c => rr.code x c st1
          | _ => none
        | _ => none
      | _, _ => none
    | _ => none

def seqF (P : Program) (ok : Ok) (rr : Rec) : Ctx → List Code → St → Option (Ex × St)
  | _, [], st => some (.normal, st)
  | x, c :: cs, st => match rr.code x c st with
    | some (.normal, st1) => rr.seq x cs st1
    | r => r

def opsF (P : Program) (ok : Ok) (rr : Rec) : Ctx → Array Oper → List Nat → St → Option (Ex × St)
  | _, _, [], st => some (.normal, st)
  | x, ops, i :: rest, st =>
    match ops[i]? with
    | none => none
    | some o => match dwanted ops st.tm o with
      | none => none
      | some false => rr.ops x ops rest (st.put o.dst undef st.H)
      | some true => match rr.op1 x o (ev st.tm) st.ds st.H with
        | some (.val v ds H) => rr.ops x ops rest (St.put ⟨st.tm, ds, st.H⟩ o.dst v H)
        | some (.panic ch H) => some (.panic ch, ⟨st.tm, st.ds, H⟩)
        | none => none

def op1F (P : Program) (ok : Ok) (rr : Rec) : Ctx → Oper → (Operand → Value) → List Deferred → Heap → Option R1
  | x, o, ρ, ds, H =>
    match fop P o ρ H with
    | some (.val v H') => some (.val v ds H')
    | some (.call f args) => match rr.call f args H with
      | some (.ret v, H') => some (.val v ds H')
      | some (.panic ch, H') => some (.panic ch H')
      | none => none
    | some (.yield l args) => match rr.round l args H with
      | some (v, H') => some (.val v ds H')
      | none => none
    | some (.dfr d) => match x.round with
      | none => some (.val undef (d :: ds) H)
      | some _ => none
    | some (.panic v) => some (.panic [{ v, recovered := false }] H)
    | _ => none

def drawF (P : Program) (ok : Ok) (rr : Rec) : Ctx → Array Oper → Array Nat → List Nat → Nat → List Nat → Nat → List Heap → Tr Value → List Deferred → Option St
  | x, ops, b, effs, base, es, done, hs, tm, ds =>
    match twin b es with
    | none => rr.stage x ops b effs base es done hs tm ds
    | some (e, f) => match rr.stage x ops b effs base [e, f] done hs tm ds, rr.stage x ops b effs base [f, e] done hs tm ds with
      | some st, some st' => match dtwin P ops b effs base done hs tm e f with
        | some (p, q) => if agree ops base p q st st' then some st else none
        | none => none
      | _, _ => none

def stageF (P : Program) (ok : Ok) (rr : Rec) : Ctx → Array Oper → Array Nat → List Nat → Nat → List Nat → Nat → List Heap → Tr Value → List Deferred → Option St
  | x, ops, b, effs, base, es, done, hs, tm, ds =>
    match hs with
    | [] => none
    | G :: _ => match es with
      | [] => match dnon P ops b effs base hs ((List.range ops.size).filter fun i => !done.testBit i && !effs.contains i) tm G with
        | some (tm1, H1) => some ⟨tm1, ds, H1⟩
        | none => none
      | e :: es =>
        let m := b.getD e 0
        match dnon P ops b effs base hs (pending (List.range ops.size) effs m done) tm G with
        | none => none
        | some (tm1, H1) => match ops[e]? with
          | none => none
          | some o =>
            let done1 := done ||| m ||| 2 ^ e
            match dwanted ops tm1 o with
            | none => none
            | some false => rr.draw x ops b effs base es done1 (H1 :: hs) (match o.dst with | some d => tm1.put d (some undef) | none => tm1) ds
            | some true => match rr.op1 x o (ev tm1) ds H1 with
              | some (.val v ds1 H2) => rr.draw x ops b effs base es done1 (H2 :: hs) (match o.dst with | some d => tm1.put d (some v) | none => tm1) ds1
              | _ => none

def callF (P : Program) (ok : Ok) (rr : Rec) : FuncId → List Value → Heap → Option (En × Heap)
  | f, args, H =>
    match ok.K f args H with
    | some r => some r
    | none => match P.funcs[f]?, ok.testBit f with
      | some fn, true => match fn.body with
        | some c => match rr.code ⟨f, none⟩ c ⟨initTm 0 args .nil, [], H⟩ with
          | some (.normal, st) | some (.ret, st) => rr.leave fn st.tm st.ds none st.H
          | some (.panic ch, st) => rr.leave fn st.tm st.ds (some ch) st.H
          | _ => none
        | none => none
      | _, _ => none

def leaveF (P : Program) (ok : Ok) (rr : Rec) : Func → Tr Value → List Deferred → Option (List PanicEntry) → Heap → Option (En × Heap)
  | fn, tm, [], none, H => match dres P fn tm H with
    | some v => some (.ret v, H)
    | none => none
  | _, _, [], some ch, H => some (.panic ch, H)
  | fn, tm, d :: ds, m, H => match d.target with
    | .collected l => match H.get l with
      | some .dfr => rr.leave fn tm ds m (H.put l none)
      | _ => none
    | .fn (.func g) captured => match P.funcs[g]?, ok.testBit g && (dcall1 P g []).isSome with
      | some gn, true => match gn.body with
        | some c => match headRegion c with
          | some (ops, rest) => match ops[0]? with
            | some o => if isRecover o then
                let r := drecov m
                let st0 := St.put ⟨initTm 0 (d.args.toList ++ captured.toList) .nil, [], H⟩ o.dst r.1 H
                match dplain P ops ((List.range ops.size).drop 1) st0.tm H with
                | some (tm1, H1) => match rr.seq ⟨g, none⟩ rest ⟨tm1, [], H1⟩ with
                  | some (.normal, st2) | some (.ret, st2) => if st2.ds.isEmpty && gn.results.isEmpty then rr.leave fn tm ds (dsettle r.2) st2.H else none
                  | _ => none
                | none => none
              else none
            | none => none
          | none => none
        | none => none
      | _, _ => none
    | _ => none

def roundF (P : Program) (ok : Ok) (rr : Rec) : Nat → List Value → Heap → Option (Value × Heap)
  | l, args, H => match H.get l with
    | some (.loop .ready pend fn tm ps ags bo dd) =>
      if Nat.beq args.length ps.length then
        let tm1 := (ps.zip args).foldl (fun t p => t.put p.1 (some p.2)) tm
        match rr.code ⟨fn, some l⟩ ags ⟨tm1, [], H⟩ with
        | some (.normal, st1) => match st1.H.get l with
          | some (.loop .ready pend1 fn1 tm1 ps1 as1 bo1 d1) =>
            match rr.code ⟨fn, some l⟩ bo ⟨st1.tm, st1.ds, st1.H.put l (some (.loop .busy pend1 fn1 tm1 ps1 as1 bo1 d1))⟩ with
            | some (.normal, st2) => dendRound l none (.bool true) .ready st2.H
            | some (.ret, st2) => dendRound l (some .ret) (.bool false) .done st2.H
            | some (.exit id, st2) => dendRound l (some (.exit id)) (.bool false) .done st2.H
            | _ => none
          | _ => none
        | _ => none
      else none
    | _ => none

def Rec.none : Rec := ⟨fun _ _ _ => Option.none, fun _ _ _ => Option.none, fun _ _ _ _ => Option.none, fun _ _ _ _ _ => Option.none, fun _ _ _ _ _ _ _ _ _ _ => Option.none, fun _ _ _ _ _ _ _ _ _ _ => Option.none, fun _ _ _ => Option.none, fun _ _ _ _ _ => Option.none, fun _ _ _ => Option.none⟩
def Rec.next (P : Program) (ok : Ok) (r : Rec) : Rec := ⟨codeF P ok r, seqF P ok r, opsF P ok r, op1F P ok r, drawF P ok r, stageF P ok r, callF P ok r, leaveF P ok r, roundF P ok r⟩
noncomputable def frun (P : Program) (ok : Ok) (n : Nat) : Rec := Nat.rec Rec.none (fun _ r => Rec.next P ok r) n

theorem fop_fun (P : Program) : fop P = dop P := by funext o ρ H; exact fop_eq P o ρ H

theorem codeF_eq (P : Program) (ok : Ok) (n : Nat) : codeF P ok ⟨dcode P ok n, dseq P ok n, dops P ok n, dop1 P ok n, ddraw P ok n, dstage P ok n, dcall P ok n, dleave P ok n, dround P ok n⟩ = dcode P ok (n + 1) := by
  funext a0 a1 a2
  cases a1 with
  | region i o d => cases d <;> (simp only [codeF, dcode]; try rfl)
  | _ => simp only [codeF, dcode]; try rfl

theorem seqF_eq (P : Program) (ok : Ok) (n : Nat) : seqF P ok ⟨dcode P ok n, dseq P ok n, dops P ok n, dop1 P ok n, ddraw P ok n, dstage P ok n, dcall P ok n, dleave P ok n, dround P ok n⟩ = dseq P ok (n + 1) := by
  funext a0 a1 a2
  cases a1 <;> (simp only [seqF, dseq]; try rfl)

theorem opsF_eq (P : Program) (ok : Ok) (n : Nat) : opsF P ok ⟨dcode P ok n, dseq P ok n, dops P ok n, dop1 P ok n, ddraw P ok n, dstage P ok n, dcall P ok n, dleave P ok n, dround P ok n⟩ = dops P ok (n + 1) := by
  funext a0 a1 a2 a3
  cases a2 <;> (simp only [opsF, dops]; try rfl)

theorem op1F_eq (P : Program) (ok : Ok) (n : Nat) : op1F P ok ⟨dcode P ok n, dseq P ok n, dops P ok n, dop1 P ok n, ddraw P ok n, dstage P ok n, dcall P ok n, dleave P ok n, dround P ok n⟩ = dop1 P ok (n + 1) := by
  funext a0 a1 a2 a3 a4
  simp only [op1F, dop1, fop_fun]; try rfl

theorem drawF_eq (P : Program) (ok : Ok) (n : Nat) : drawF P ok ⟨dcode P ok n, dseq P ok n, dops P ok n, dop1 P ok n, ddraw P ok n, dstage P ok n, dcall P ok n, dleave P ok n, dround P ok n⟩ = ddraw P ok (n + 1) := by
  funext a0 a1 a2 a3 a4 a5 a6 a7 a8 a9
  simp only [drawF, ddraw]; try rfl

theorem stageF_eq (P : Program) (ok : Ok) (n : Nat) : stageF P ok ⟨dcode P ok n, dseq P ok n, dops P ok n, dop1 P ok n, ddraw P ok n, dstage P ok n, dcall P ok n, dleave P ok n, dround P ok n⟩ = dstage P ok (n + 1) := by
  funext a0 a1 a2 a3 a4 a5 a6 a7 a8 a9
  cases a7 with
  | nil => simp only [stageF, dstage]; try rfl
  | cons G gs => cases a5 <;> (simp only [stageF, dstage]; try rfl)

theorem callF_eq (P : Program) (ok : Ok) (n : Nat) : callF P ok ⟨dcode P ok n, dseq P ok n, dops P ok n, dop1 P ok n, ddraw P ok n, dstage P ok n, dcall P ok n, dleave P ok n, dround P ok n⟩ = dcall P ok (n + 1) := by
  funext a0 a1 a2
  simp only [callF, dcall]; try rfl

theorem leaveF_eq (P : Program) (ok : Ok) (n : Nat) : leaveF P ok ⟨dcode P ok n, dseq P ok n, dops P ok n, dop1 P ok n, ddraw P ok n, dstage P ok n, dcall P ok n, dleave P ok n, dround P ok n⟩ = dleave P ok (n + 1) := by
  funext a0 a1 a2 a3 a4
  cases a2 with
  | nil => cases a3 <;> (simp only [leaveF, dleave]; try rfl)
  | cons d ds => simp only [leaveF, dleave]; try rfl

theorem roundF_eq (P : Program) (ok : Ok) (n : Nat) : roundF P ok ⟨dcode P ok n, dseq P ok n, dops P ok n, dop1 P ok n, ddraw P ok n, dstage P ok n, dcall P ok n, dleave P ok n, dround P ok n⟩ = dround P ok (n + 1) := by
  funext a0 a1 a2
  simp only [roundF, dround]; try rfl

theorem frun_eq (P : Program) (ok : Ok) : ∀ n, frun P ok n = ⟨dcode P ok n, dseq P ok n, dops P ok n, dop1 P ok n, ddraw P ok n, dstage P ok n, dcall P ok n, dleave P ok n, dround P ok n⟩
  | 0 => by
    show Rec.none = _
    unfold Rec.none
    congr 1 <;> funext <;> first | rw [dcode] | rw [dseq] | rw [dops] | rw [dop1] | rw [ddraw] | rw [dstage] | rw [dcall] | rw [dleave] | rw [dround]
  | n + 1 => by
    show Rec.next P ok (frun P ok n) = _
    rw [frun_eq P ok n, Rec.next]
    rw [codeF_eq, seqF_eq, opsF_eq, op1F_eq, drawF_eq, stageF_eq, callF_eq, leaveF_eq, roundF_eq]

end Go.Hb
end
