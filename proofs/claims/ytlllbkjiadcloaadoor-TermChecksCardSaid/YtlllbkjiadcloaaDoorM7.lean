import Derived.Test.YtlllbkjiadcloaaDoorM5
import Derived.Test.YtlllbkjiadcloaaDoorM6
import Derived.Test.YtlllbkjiadcloaaDoorM3
/- Lemmas on the program's own code, towards the laws of this folder, part 7. Conditions: as each lemma says. -/
-- Y9
section
/- Which texts are those of integers: the program's test and the reference's are one. -/
namespace Go.Proofs.YtlllbkjiadcloaaDoor.hb
open Go Go.RowKit Go.Hb
variable {ok : Ok}
set_option maxRecDepth 10000
attribute [local irreducible] LX LG EL STG SOP SGO SGD SAL SRD SEF SEG SLK SCK ES
def canonS (s : ByteArray) : Bool := match parseD (bl s) with | none => false | some n => textD (negS (bl s)) n == bl s
theorem parseD_lt {l : List Nat} {n : Nat} (h : parseD l = some n) : n < big := by
  unfold parseD at h
  split at h
  · cases h
  · split at h
    · cases h
    · exact numD_lt _ 0 n (by rw [big_eq]; exact Nat.two_pow_pos _) h
theorem toNat_inj : ∀ {a b : List UInt8}, a.map UInt8.toNat = b.map UInt8.toNat → a = b
  | [], [], _ => rfl
  | x :: a, y :: b, h => by
    simp only [List.map_cons, List.cons.injEq] at h
    rw [UInt8.toNat_inj.1 h.1, toNat_inj h.2]
  | [], _ :: _, h => by simp at h
  | _ :: _, [], h => by simp at h
theorem data_beq (t s : ByteArray) : (t.data.toList == s.data.toList) = (bl t == bl s) := by
  by_cases h : t.data.toList = s.data.toList
  · rw [beq_iff_eq.2 h, beq_iff_eq.2 (show bl t = bl s by unfold bl; rw [h])]
  · have h2 : bl t ≠ bl s := fun h3 => h (toNat_inj h3)
    rw [beq_eq_false_iff_ne.2 h, beq_eq_false_iff_ne.2 h2]

-- term.integer
theorem integer_ev : TellsS okT 102 canonS := by
  intro s H hs hw
  refine EvF.enter rfl Tryd.func102 (by decide) rfl ?_
  repeat' (first | refine EvC.seq ?_ | refine EvC.scope ?_ | refine EvC.block ?_ | (refine EvC.skip ?_; try simp only []) | (refine EvC.exit ?_; try simp only []) | (refine EvC.ret ?_; try simp only [thenC_ret, inBlock_ret]) | (refine EvC.reg ?_; simp (config := { maxSteps := 2000000 }) (disch := first | omega | rfl) only [initTm, EL_cons, EL_nil, LX_val, LX_call, dop_assign, dop_move, ev_const, ev_tmp, Tr.get_put, put_some, Nat.reduceEqDiff, Option.getD_some, reduceCtorEq, if_true, if_false, List.map_cons, List.map_nil, thenC_normal, dop_extract, cl124]) | (refine EL_go ?_; simp (config := { maxSteps := 2000000 }) (disch := first | omega | rfl) only []) | (refine LX_go ?_; simp (config := { maxSteps := 2000000 }) (disch := first | omega | rfl) only []) | (refine LG_go ?_; simp (config := { maxSteps := 2000000 }) (disch := first | omega | rfl) only []) | (refine EvC.condT ?_ ?_; simp (config := { maxSteps := 2000000 }) (disch := first | omega | rfl) only []; refine EvC_go ?_) | (refine EvC.condF ?_ ?_; simp (config := { maxSteps := 2000000 }) (disch := first | omega | rfl) only []; refine EvC_go ?_))
  refine (parse_ev hs hw).mono ?_
  rintro v H1 ⟨hP, hx1⟩
  rcases hP with ⟨hnone, e, he, rfl⟩ | ⟨n, L, a, c, hsome, rfl, hr, hLb, hval, hlast, hlen⟩
  · have hx2 := (hx1.new (some (.row [.bool false, .slice none 0 0] 142))).put (i := H1.next) hx1.next (Nat.lt_succ_self _) (some (.row [.bool false, .slice none 0 0] 142))
    repeat' (first | refine EvC.seq ?_ | refine EvC.scope ?_ | refine EvC.block ?_ | (refine EvC.skip ?_; try simp only []) | (refine EvC.exit ?_; try simp only []) | (refine EvC.ret ?_; try simp only [thenC_ret, inBlock_ret]) | (refine EvC.reg ?_; simp (config := { maxSteps := 2000000 }) (disch := first | omega | rfl) only [EL_cons, EL_nil, LX_val, dop_assign, dop_move, dop_bin, ev_const, ev_tmp, Tr.get_put, put_some, Nat.reduceEqDiff, Option.getD_some, reduceCtorEq, if_true, if_false, thenC_normal, dBin_neq, ine_t]) | (refine EL_go ?_; simp (config := { maxSteps := 2000000 }) (disch := first | omega | rfl) only []) | (refine LX_go ?_; simp (config := { maxSteps := 2000000 }) (disch := first | omega | rfl) only [EL_cons, EL_nil, LX_val, dop_assign, dop_store, dop_alloc, dAlloc, ev_tmp, Tr.get_put, put_some, put_none, Nat.reduceEqDiff, Option.getD_some, Nat.reduceAdd, Nat.zero_add, List.all_cons, List.all_nil, one, Bool.and_self, reduceCtorEq, if_true, if_false, get_new, List.drop_succ_cons, List.length_cons, List.length_nil, Nat.beq_refl, dStoreIf_true, dStoreB_row, splice_zero, List.append_nil, Nat.le_refl, and_self, List.drop_nil, dop_extract, dExt_0, dExt_1, zr142, st142]) | (refine LG_go ?_; simp (config := { maxSteps := 2000000 }) (disch := first | omega | rfl) only []) | (refine EvC.condT ?_ ?_; simp (config := { maxSteps := 2000000 }) (disch := first | omega | rfl) only [ev_tmp, Tr.get_put, Nat.reduceEqDiff, Option.getD_some, reduceCtorEq, if_true, if_false]; refine EvC_go ?_) | (refine EvC.condF ?_ ?_; simp (config := { maxSteps := 2000000 }) (disch := first | omega | rfl) only []; refine EvC_go ?_))
    exact leave_one rfl (by first | (simp only [Tr.get_put, Nat.reduceEqDiff, reduceCtorEq, if_true, if_false, Option.some.injEq]; rfl) | simp only []) ⟨by unfold canonS; rw [hnone], hx2⟩
  · have hn : n < big := parseD_lt hsome
    have hx2 := ((HX.refl hx1.wf).new (some (.row [.bool false, .slice none 0 0] 142))).put (i := H1.next) (Nat.le_refl _) (Nat.lt_succ_self _) (some (.row [.bool (negS (bl s) && decide (0 < L.length)), .slice a L.length c] 142))
    repeat' (first | refine EvC.seq ?_ | refine EvC.scope ?_ | refine EvC.block ?_ | (refine EvC.skip ?_; try simp only [thenC_normal]) | (refine EvC.exit ?_; try simp only []) | (refine EvC.ret ?_; try simp only [thenC_ret, inBlock_ret]) | (refine EvC.reg ?_; simp (config := { maxSteps := 2000000 }) (disch := first | omega | rfl) only [EL_cons, EL_nil, LX_val, LX_call, dop_move, dop_load, dop_bin, ev_const, ev_tmp, Tr.get_put, put_some, Nat.reduceEqDiff, Option.getD_some, Nat.reduceAdd, Nat.zero_add, reduceCtorEq, if_true, if_false, load_new, load_put, cutC, dloadA_some, List.drop_zero, List.take_succ_cons, List.take_zero, List.length_cons, List.length_nil, Nat.beq_refl, List.map_cons, List.map_nil, thenC_normal, dBin_neq, dop_extract, ld142, cl125, ine_f]) | (refine EL_go ?_; simp (config := { maxSteps := 2000000 }) (disch := first | omega | rfl) only []) | (refine LX_go ?_; simp (config := { maxSteps := 2000000 }) (disch := first | omega | rfl) only [EL_cons, EL_nil, LX_val, dop_assign, dop_store, dop_alloc, dAlloc, ev_tmp, Tr.get_put, put_some, put_none, Nat.reduceEqDiff, Option.getD_some, Nat.reduceAdd, Nat.zero_add, List.all_cons, List.all_nil, one, Bool.and_self, reduceCtorEq, if_true, if_false, get_new, List.drop_succ_cons, List.length_cons, List.length_nil, Nat.beq_refl, dStoreIf_true, dStoreB_row, splice_zero, List.append_nil, Nat.le_refl, and_self, List.drop_nil, dop_extract, dExt_0, dExt_1, zr142, st142]) | (refine LG_go ?_; simp (config := { maxSteps := 2000000 }) (disch := first | omega | rfl) only []) | (refine EvC.condT ?_ ?_; simp (config := { maxSteps := 2000000 }) (disch := first | omega | rfl) only [ev_tmp, Tr.get_put, Nat.reduceEqDiff, Option.getD_some, reduceCtorEq, if_true, if_false]; refine EvC_go ?_) | (refine EvC.condF ?_ ?_; simp (config := { maxSteps := 2000000 }) (disch := first | omega | rfl) only [ev_tmp, Tr.get_put, Nat.reduceEqDiff, Option.getD_some, reduceCtorEq, if_true, if_false]; refine EvC_go ?_))
    refine (text_ev hx2.wf (hr.keep hx2 hx1.wf) hLb hlen hval hn).mono ?_
    rintro v H2 ⟨⟨t, rfl, ht⟩, hx3⟩
    have htx : textD (negS (bl s) && decide (0 < L.length)) n = textD (negS (bl s)) n := by
      by_cases h0 : 0 < L.length
      · simp [h0]
      · have : L = [] := List.length_eq_zero_iff.1 (by omega)
        subst this
        have : n = 0 := by rw [← hval]; rfl
        subst this; rfl
    rw [htx] at ht
    have heq : (t.data.toList == s.data.toList) = canonS s := by
      rw [data_beq, ht]
      unfold canonS; rw [hsome]
    repeat' (first | refine EvC.seq ?_ | refine EvC.scope ?_ | refine EvC.block ?_ | (refine EvC.skip ?_; try simp only []) | (refine EvC.exit ?_; try simp only []) | (refine EvC.ret ?_; try simp only [thenC_ret, inBlock_ret]) | (refine EvC.reg ?_; simp (config := { maxSteps := 2000000 }) (disch := first | omega | rfl) only [EL_cons, EL_nil, EL_guard, LX_val, LG_tt, dop_assign, dop_move, dop_pick, dPick_bool, dop_bin, ev_const, ev_tmp, Tr.get_put, put_some, Nat.reduceEqDiff, Option.getD_some, reduceCtorEq, if_true, if_false, thenC_normal, guardOf_eq, guardGet_some, List.getElem?_cons_succ, List.getElem?_cons_zero, dBin_eql, ieq_t, bEqS_data, heq]) | (refine EL_go ?_; simp (config := { maxSteps := 2000000 }) (disch := first | omega | rfl) only []) | (refine LX_go ?_; simp (config := { maxSteps := 2000000 }) (disch := first | omega | rfl) only [EL_cons, EL_nil, LX_val, dop_assign, ev_tmp, Tr.get_put, put_some, Nat.reduceEqDiff, Option.getD_some, reduceCtorEq, if_true, if_false, dop_extract, dExt_0, dExt_1]) | (refine LG_go ?_; simp (config := { maxSteps := 2000000 }) (disch := first | omega | rfl) only []) | (refine EvC.condT ?_ ?_; simp (config := { maxSteps := 2000000 }) (disch := first | omega | rfl) only []; refine EvC_go ?_) | (refine EvC.condF ?_ ?_; simp (config := { maxSteps := 2000000 }) (disch := first | omega | rfl) only []; refine EvC_go ?_))
    exact leave_one rfl (by first | (simp only [Tr.get_put, Nat.reduceEqDiff, reduceCtorEq, if_true, if_false]; rfl) | simp only [Tr.get_put, Nat.reduceEqDiff, reduceCtorEq, if_true, if_false]) ⟨rfl, (hx1.trans hx2).trans hx3⟩

-- hornbeamref02.canonical
theorem canonical_ev : TellsS okT 106 canonS := by
  intro s H hs hw
  refine EvF.enter rfl Tryd.func106 (by decide) rfl ?_
  repeat' (first | refine EvC.seq ?_ | refine EvC.scope ?_ | refine EvC.block ?_ | (refine EvC.skip ?_; try simp only []) | (refine EvC.exit ?_; try simp only []) | (refine EvC.ret ?_; try simp only [thenC_ret, inBlock_ret]) | (refine EvC.reg ?_; simp (config := { maxSteps := 2000000 }) (disch := first | omega | rfl) only [initTm, EL_cons, EL_nil, LX_val, LX_call, dop_assign, dop_move, ev_const, ev_tmp, Tr.get_put, put_some, Nat.reduceEqDiff, Option.getD_some, reduceCtorEq, if_true, if_false, List.map_cons, List.map_nil, thenC_normal, dop_extract, cl127]) | (refine EL_go ?_; simp (config := { maxSteps := 2000000 }) (disch := first | omega | rfl) only []) | (refine LX_go ?_; simp (config := { maxSteps := 2000000 }) (disch := first | omega | rfl) only []) | (refine LG_go ?_; simp (config := { maxSteps := 2000000 }) (disch := first | omega | rfl) only []) | (refine EvC.condT ?_ ?_; simp (config := { maxSteps := 2000000 }) (disch := first | omega | rfl) only []; refine EvC_go ?_) | (refine EvC.condF ?_ ?_; simp (config := { maxSteps := 2000000 }) (disch := first | omega | rfl) only []; refine EvC_go ?_))
  refine (parseR_ev hs hw).mono ?_
  rintro v H1 ⟨hP, hx1⟩
  rcases hP with ⟨hnone, e, he, rfl⟩ | ⟨n, L, a, c, hsome, rfl, hr, hLb, hval, hlast, hlen⟩
  · have hx2 := (hx1.new (some (.row [.bool false, .slice none 0 0] 149))).put (i := H1.next) hx1.next (Nat.lt_succ_self _) (some (.row [.bool false, .slice none 0 0] 149))
    repeat' (first | refine EvC.seq ?_ | refine EvC.scope ?_ | refine EvC.block ?_ | (refine EvC.skip ?_; try simp only []) | (refine EvC.exit ?_; try simp only []) | (refine EvC.ret ?_; try simp only [thenC_ret, inBlock_ret]) | (refine EvC.reg ?_; simp (config := { maxSteps := 2000000 }) (disch := first | omega | rfl) only [EL_cons, EL_nil, LX_val, dop_assign, dop_move, dop_bin, ev_const, ev_tmp, Tr.get_put, put_some, Nat.reduceEqDiff, Option.getD_some, reduceCtorEq, if_true, if_false, thenC_normal, dBin_neq, ine_t]) | (refine EL_go ?_; simp (config := { maxSteps := 2000000 }) (disch := first | omega | rfl) only []) | (refine LX_go ?_; simp (config := { maxSteps := 2000000 }) (disch := first | omega | rfl) only [EL_cons, EL_nil, LX_val, dop_assign, dop_store, dop_alloc, dAlloc, ev_tmp, Tr.get_put, put_some, put_none, Nat.reduceEqDiff, Option.getD_some, Nat.reduceAdd, Nat.zero_add, List.all_cons, List.all_nil, one, Bool.and_self, reduceCtorEq, if_true, if_false, get_new, List.drop_succ_cons, List.length_cons, List.length_nil, Nat.beq_refl, dStoreIf_true, dStoreB_row, splice_zero, List.append_nil, Nat.le_refl, and_self, List.drop_nil, dop_extract, dExt_0, dExt_1, zr149, st149]) | (refine LG_go ?_; simp (config := { maxSteps := 2000000 }) (disch := first | omega | rfl) only []) | (refine EvC.condT ?_ ?_; simp (config := { maxSteps := 2000000 }) (disch := first | omega | rfl) only [ev_tmp, Tr.get_put, Nat.reduceEqDiff, Option.getD_some, reduceCtorEq, if_true, if_false]; refine EvC_go ?_) | (refine EvC.condF ?_ ?_; simp (config := { maxSteps := 2000000 }) (disch := first | omega | rfl) only []; refine EvC_go ?_))
    exact leave_one rfl (by first | (simp only [Tr.get_put, Nat.reduceEqDiff, reduceCtorEq, if_true, if_false, Option.some.injEq]; rfl) | simp only []) ⟨by unfold canonS; rw [hnone], hx2⟩
  · have hn : n < big := parseD_lt hsome
    have hx2 := ((HX.refl hx1.wf).new (some (.row [.bool false, .slice none 0 0] 149))).put (i := H1.next) (Nat.le_refl _) (Nat.lt_succ_self _) (some (.row [.bool (negS (bl s) && decide (0 < L.length)), .slice a L.length c] 149))
    repeat' (first | refine EvC.seq ?_ | refine EvC.scope ?_ | refine EvC.block ?_ | (refine EvC.skip ?_; try simp only [thenC_normal]) | (refine EvC.exit ?_; try simp only []) | (refine EvC.ret ?_; try simp only [thenC_ret, inBlock_ret]) | (refine EvC.reg ?_; simp (config := { maxSteps := 2000000 }) (disch := first | omega | rfl) only [EL_cons, EL_nil, LX_val, LX_call, dop_move, dop_load, dop_bin, ev_const, ev_tmp, Tr.get_put, put_some, Nat.reduceEqDiff, Option.getD_some, Nat.reduceAdd, Nat.zero_add, reduceCtorEq, if_true, if_false, load_new, load_put, cutC, dloadA_some, List.drop_zero, List.take_succ_cons, List.take_zero, List.length_cons, List.length_nil, Nat.beq_refl, List.map_cons, List.map_nil, thenC_normal, dBin_neq, ld149, cl128, ine_f]) | (refine EL_go ?_; simp (config := { maxSteps := 2000000 }) (disch := first | omega | rfl) only []) | (refine LX_go ?_; simp (config := { maxSteps := 2000000 }) (disch := first | omega | rfl) only [EL_cons, EL_nil, LX_val, dop_assign, dop_store, dop_alloc, dAlloc, ev_tmp, Tr.get_put, put_some, put_none, Nat.reduceEqDiff, Option.getD_some, Nat.reduceAdd, Nat.zero_add, List.all_cons, List.all_nil, one, Bool.and_self, reduceCtorEq, if_true, if_false, get_new, List.drop_succ_cons, List.length_cons, List.length_nil, Nat.beq_refl, dStoreIf_true, dStoreB_row, splice_zero, List.append_nil, Nat.le_refl, and_self, List.drop_nil, dop_extract, dExt_0, dExt_1, zr149, st149]) | (refine LG_go ?_; simp (config := { maxSteps := 2000000 }) (disch := first | omega | rfl) only []) | (refine EvC.condT ?_ ?_; simp (config := { maxSteps := 2000000 }) (disch := first | omega | rfl) only [ev_tmp, Tr.get_put, Nat.reduceEqDiff, Option.getD_some, reduceCtorEq, if_true, if_false]; refine EvC_go ?_) | (refine EvC.condF ?_ ?_; simp (config := { maxSteps := 2000000 }) (disch := first | omega | rfl) only [ev_tmp, Tr.get_put, Nat.reduceEqDiff, Option.getD_some, reduceCtorEq, if_true, if_false]; refine EvC_go ?_))
    refine (textR_ev hx2.wf (hr.keep hx2 hx1.wf) hLb hlen hlast hval hn).mono ?_
    rintro v H2 ⟨⟨t, rfl, ht⟩, hx3⟩
    have htx : textD (negS (bl s) && decide (0 < L.length)) n = textD (negS (bl s)) n := by
      by_cases h0 : 0 < L.length
      · simp [h0]
      · have : L = [] := List.length_eq_zero_iff.1 (by omega)
        subst this
        have : n = 0 := by rw [← hval]; rfl
        subst this; rfl
    rw [htx] at ht
    have heq : (t.data.toList == s.data.toList) = canonS s := by
      rw [data_beq, ht]
      unfold canonS; rw [hsome]
    repeat' (first | refine EvC.seq ?_ | refine EvC.scope ?_ | refine EvC.block ?_ | (refine EvC.skip ?_; try simp only []) | (refine EvC.exit ?_; try simp only []) | (refine EvC.ret ?_; try simp only [thenC_ret, inBlock_ret]) | (refine EvC.reg ?_; simp (config := { maxSteps := 2000000 }) (disch := first | omega | rfl) only []) | (refine EL_go ?_; simp (config := { maxSteps := 2000000 }) (disch := first | omega | rfl) only []) | (refine LX_go ?_; simp (config := { maxSteps := 2000000 }) (disch := first | omega | rfl) only [EL_cons, EL_nil, LX_val, dop_assign, ev_tmp, Tr.get_put, put_some, Nat.reduceEqDiff, Option.getD_some, reduceCtorEq, if_true, if_false, bEqS_data, heq]) | (refine LG_go ?_; simp (config := { maxSteps := 2000000 }) (disch := first | omega | rfl) only []) | (refine EvC.condT ?_ ?_; simp (config := { maxSteps := 2000000 }) (disch := first | omega | rfl) only []; refine EvC_go ?_) | (refine EvC.condF ?_ ?_; simp (config := { maxSteps := 2000000 }) (disch := first | omega | rfl) only []; refine EvC_go ?_))
    exact leave_one rfl (by first | (simp only [Tr.get_put, Nat.reduceEqDiff, reduceCtorEq, if_true, if_false]; rfl) | simp only [Tr.get_put, Nat.reduceEqDiff, reduceCtorEq, if_true, if_false]) ⟨rfl, (hx1.trans hx2).trans hx3⟩

end Go.Proofs.YtlllbkjiadcloaaDoor.hb
end

-- Y10
section
/- Check, both sides: one. -/
namespace Go.Proofs.YtlllbkjiadcloaaDoor.hb
open Go Go.RowKit Go.Hb
variable {ok : Ok}
set_option maxRecDepth 10000
attribute [local irreducible] LX LG EL STG SOP SGO SGD SAL SRD SEF SEG SLK SCK ES
def utfS (s : ByteArray) : Bool := Lib.validD s.data.toList
def fltS (n : Int) : Bool := !(fnB n || fiB n || n == 9223372036854775808)
def nodeS : Tm → Int := nodeE utfS canonS fltS
theorem valid_tells : TellsS okT 101 utfS := fun _ _ hs hw => valid_ev (by decide) hw hs
theorem utf_tells : TellsS okT 105 utfS := fun s H hs hw => (utf_ref_ev (fun _ _ => rfl) (by decide) s H hs hw).mono fun v H' h => by
  have h' : v = .bool (utfR s.size s.data.toList) ∧ HX H H' := h
  rw [utfR_valid _ _ (by simp)] at h'; exact h'
theorem floats_tells : TellsU okT 107 fltS := fun n H hn hw => (floats_ev (fun _ _ => rfl) (by decide) n H hn hw).mono fun v H' h => by
  rw [floats_same n hn] at h; exact h
theorem nan_tells : TellsN okT 89 103 104 fnB fiB := fun n H hn hw => ⟨isnan_ev (fun _ _ => rfl) (by decide) n H hw, isinf_ev (fun f _ _ h => by rcases h with rfl | rfl <;> rfl) (by decide) (by decide) n H hw⟩
theorem node_tells : TellsT okT 84 nodeS := fun t cs H r hw => node_ev (fun _ _ => rfl) (by decide) (fun _ _ => rfl) (by decide) valid_tells integer_ev nan_tells r hw
theorem one_tells : TellsT okT 85 nodeS := fun t cs H r hw => one_ev (fun _ _ => rfl) (by decide) utf_tells canonical_ev floats_tells r hw
theorem nodes_tells : TellsT okT 13 fun t => cnt t 0 := fun t cs H r hw => nodes_ev (fun f _ _ h => by rcases h with rfl | rfl <;> rfl) (by decide) (by decide) r hw
theorem nodesR_tells : TellsT okT 14 fun t => cnt t 0 := fun t cs H r hw => nodes_ref_ev (fun f _ _ h => by rcases h with rfl | rfl <;> rfl) (by decide) (by decide) r hw
def checkS : Tm → Int := checkE nodeS
theorem check_tells : TellsT okT 15 checkS := check_ev nodes_tells (nodes_all_ev node_tells (fun _ _ => rfl) (by decide)) (fun _ _ => rfl) (by decide)
theorem checkR_tells : TellsT okT 16 checkS := ref_check_ev nodesR_tells (ref_all_ev one_tells (fun _ _ => rfl) (by decide)) (fun _ _ => rfl) (by decide)
end Go.Proofs.YtlllbkjiadcloaaDoor.hb
end

-- Y11
section
/- The law of checks. -/
namespace Go.Proofs.YtlllbkjiadcloaaDoor.hb
open Go Go.RowKit Go.Hb
variable {ok : Ok}
set_option maxRecDepth 10000
attribute [local irreducible] LX LG EL STG SOP SGO SGD SAL SRD SEF SEG SLK SCK ES
theorem veq_term {k b v : Int} {s u : ByteArray} {a : Option Addr} {n c : Nat} : veq (.agg ⟨[.int .i64 k, .string s, .string u, .int .u64 b, .int .i64 v, .slice a n c]⟩) (.agg ⟨[.int .i64 k, .string s, .string u, .int .u64 b, .int .i64 v, .slice a n c]⟩) = true := by
  simp [veq, veqL]
theorem awake_tells {H : Heap} (hw : H.wf) : EvF Tryd.prog okT 12 [] H fun v H' => v = .bool true ∧ HX H H' := awake_ev hw

-- hornbeamlaw02.TermChecks
set_option maxHeartbeats 2000000 in
theorem termChecks_ev {t : Tm} {cs : List Value} {H : Heap} (r : RepT H t cs) (hw : H.wf) : EvF Tryd.prog okT 4 [.agg ⟨cs⟩] H fun v _ => v = .bool true := by
  have r0 := r
  obtain ⟨a, c, cells, rfl, b1, b2, b3, b4, b5, rl⟩ := r.inv
  have hx0 := (HX.refl hw).new (some (Blk.row [Value.int IntKind.i64 t.kind, Value.string t.name, Value.string t.num, Value.int IntKind.u64 t.bits, Value.int IntKind.i64 t.var, Value.slice a t.args.length c] 26))
  refine EvF.enter rfl Tryd.func4 (by decide) rfl ?_
  repeat' (first | refine EvC.seq ?_ | refine EvC.scope ?_ | refine EvC.block ?_ | (refine EvC.skip ?_; try simp only []) | (refine EvC.exit ?_; try simp only []) | (refine EvC.ret ?_; try simp only [thenC_ret, inBlock_ret]) | (refine EvC.reg ?_; simp (config := { maxSteps := 2000000 }) (disch := first | omega | rfl) only [initTm, EL_cons, EL_nil, LX_val, LX_call, dop_box, dBox, dop_assign, ev_const, ev_tmp, Tr.get_put, put_some, Nat.reduceEqDiff, Option.getD_some, Value.cells, List.all_cons, List.all_nil, one, Bool.and_self, reduceCtorEq, if_true, if_false, List.map_nil, thenC_normal, cl12]) | (refine EvC.drw [([(0, 0), (1, 0), (2, 0)], some 3), ([(4, 0)], some 5), ([(6, 2), (7, 2), (8, 2), (9, 2)], some 10), ([(11, 2)], some 12), ([(13, 4), (14, 4), (15, 4)], none)] ?_ ?_; kernel_rfl; simp (config := { maxSteps := 2000000 }) (disch := first | omega | rfl) only []) | (refine SCK_go ?_; simp (config := { maxSteps := 2000000 }) (disch := first | omega | rfl) only []) | (refine ES_go ?_; simp (config := { maxSteps := 2000000 }) (disch := first | omega | rfl) only []) | (refine STG_go ?_; simp (config := { maxSteps := 2000000 }) (disch := first | omega | rfl) only []) | (refine SRD_go ?_; simp (config := { maxSteps := 2000000 }) (disch := first | omega | rfl) only []) | (refine SLK_go ?_; simp (config := { maxSteps := 2000000 }) (disch := first | omega | rfl) only []) | (refine EL_go ?_; simp (config := { maxSteps := 2000000 }) (disch := first | omega | rfl) only []) | (refine LX_go ?_; simp (config := { maxSteps := 2000000 }) (disch := first | omega | rfl) only []) | (refine LG_go ?_; simp (config := { maxSteps := 2000000 }) (disch := first | omega | rfl) only []) | (refine EvC.condT ?_ ?_; simp (config := { maxSteps := 2000000 }) (disch := first | omega | rfl) only []; refine EvC_go ?_) | (refine EvC.condF ?_ ?_; simp (config := { maxSteps := 2000000 }) (disch := first | omega | rfl) only []; refine EvC_go ?_))
  have hl0 : (H.new (some (Blk.row [Value.int IntKind.i64 t.kind, Value.string t.name, Value.string t.num, Value.int IntKind.u64 t.bits, Value.int IntKind.i64 t.var, Value.slice a t.args.length c] 26))).load ⟨H.next, 0, none⟩ 6 = some [Value.int IntKind.i64 t.kind, Value.string t.name, Value.string t.num, Value.int IntKind.u64 t.bits, Value.int IntKind.i64 t.var, Value.slice a t.args.length c] := ld_new_eq
  refine (awake_tells hx0.wf).mono ?_
  rintro v H1 ⟨rfl, hx1⟩
  have hl1 := hx1.load hx0.wf hl0
  repeat' (first | refine EvC.seq ?_ | refine EvC.scope ?_ | refine EvC.block ?_ | (refine EvC.skip ?_; try simp only []) | (refine EvC.exit ?_; try simp only []) | (refine EvC.ret ?_; try simp only [thenC_ret, inBlock_ret]) | (refine EvC.reg ?_; simp (config := { maxSteps := 2000000 }) (disch := first | omega | rfl) only []) | (refine EvC.drw [([(0, 0), (1, 0), (2, 0)], some 3), ([(4, 0)], some 5), ([(6, 2), (7, 2), (8, 2), (9, 2)], some 10), ([(11, 2)], some 12), ([(13, 4), (14, 4), (15, 4)], none)] ?_ ?_; kernel_rfl; simp (config := { maxSteps := 2000000 }) (disch := first | omega | rfl) only [dop_move, dop_load, ev_tmp, Tr.get_put, put_some, Nat.reduceEqDiff, Option.getD_some, Nat.reduceAdd, Nat.zero_add, reduceCtorEq, if_true, if_false, dloadA_some, List.take_zero, List.length_cons, List.length_nil, List.map_cons, List.map_nil, and_self, true_and, thenC_normal, guardOf_eq, guardGet_some, List.getElem?_cons_succ, List.getElem?_cons_zero, ld26, cl13, hl1, ES_some, STG_op, STG_eff, SOP_none, SOP_guard, SGD_tt, SGO_read, SRD_val, SEF_guard, SEG_tt, SLK_call, isAlloc, isRead, or_true, true_and, sameOn_nil, Nat.sub_self, reduceCtorEq, load_bump, List.size_toArray, and_self]) | (refine SCK_go ?_; simp (config := { maxSteps := 2000000 }) (disch := first | omega | rfl) only []) | (refine ES_go ?_; simp (config := { maxSteps := 2000000 }) (disch := first | omega | rfl) only []) | (refine STG_go ?_; simp (config := { maxSteps := 2000000 }) (disch := first | omega | rfl) only []) | (refine SRD_go ?_; simp (config := { maxSteps := 2000000 }) (disch := first | omega | rfl) only []) | (refine SLK_go ?_; simp (config := { maxSteps := 2000000 }) (disch := first | omega | rfl) only []) | (refine EL_go ?_; simp (config := { maxSteps := 2000000 }) (disch := first | omega | rfl) only []) | (refine LX_go ?_; simp (config := { maxSteps := 2000000 }) (disch := first | omega | rfl) only []) | (refine LG_go ?_; simp (config := { maxSteps := 2000000 }) (disch := first | omega | rfl) only []) | (refine EvC.condT ?_ ?_; simp (config := { maxSteps := 2000000 }) (disch := first | omega | rfl) only []; refine EvC_go ?_) | (refine EvC.condF ?_ ?_; simp (config := { maxSteps := 2000000 }) (disch := first | omega | rfl) only []; refine EvC_go ?_))
  have hw1 := hx1.wf
  have hb1 := (HX.refl hw1).bump 16
  have r1 := (r0.mono hx0 hw).mono hx1 hx0.wf
  have r1b := r1.mono hb1 hw1
  refine (nodes_tells t _ _ r1b hb1.wf).mono ?_
  rintro v H2 ⟨rfl, hx2⟩
  have hl2 := hx2.load hb1.wf (show (⟨H1.next + 16, H1.t⟩ : Heap).load _ _ = _ from hl1)
  repeat' (first | refine EvC.seq ?_ | refine EvC.scope ?_ | refine EvC.block ?_ | (refine EvC.skip ?_; try simp only []) | (refine EvC.exit ?_; try simp only []) | (refine EvC.ret ?_; try simp only [thenC_ret, inBlock_ret]) | (refine EvC.reg ?_; simp (config := { maxSteps := 2000000 }) (disch := first | omega | rfl) only []) | (refine EvC.drw [([(0, 0), (1, 0), (2, 0)], some 3), ([(4, 0)], some 5), ([(6, 2), (7, 2), (8, 2), (9, 2)], some 10), ([(11, 2)], some 12), ([(13, 4), (14, 4), (15, 4)], none)] ?_ ?_; kernel_rfl; simp (config := { maxSteps := 2000000 }) (disch := first | omega | rfl) only []) | (refine SCK_go ?_; simp (config := { maxSteps := 2000000 }) (disch := first | omega | rfl) only [dop_load, ev_tmp, Tr.get_put, put_some, Nat.reduceEqDiff, Option.getD_some, Nat.zero_add, Bool.and_self, reduceCtorEq, if_true, if_false, dloadA_some, List.take_succ_cons, List.take_zero, List.length_cons, List.length_nil, Nat.beq_refl, List.map_cons, List.map_nil, and_self, true_and, guardOf_eq, guardGet_some, List.getElem?_cons_succ, List.getElem?_cons_zero, ld26, cl14, hl1, hl2, veq_term, ES_some, STG_op, STG_eff, SOP_guard, SGD_tt, SGO_read, SRD_val, SEF_guard, SEG_tt, SLK_call, isAlloc, isRead, or_true, true_and, sameOn_nil, Nat.sub_zero, reduceCtorEq, load_bump, sameOn_cons, sameK_val, and_self, Bool.and_self]) | (refine ES_go ?_; simp (config := { maxSteps := 2000000 }) (disch := first | omega | rfl) only []) | (refine STG_go ?_; simp (config := { maxSteps := 2000000 }) (disch := first | omega | rfl) only []) | (refine SRD_go ?_; simp (config := { maxSteps := 2000000 }) (disch := first | omega | rfl) only []) | (refine SLK_go ?_; simp (config := { maxSteps := 2000000 }) (disch := first | omega | rfl) only []) | (refine EL_go ?_; simp (config := { maxSteps := 2000000 }) (disch := first | omega | rfl) only []) | (refine LX_go ?_; simp (config := { maxSteps := 2000000 }) (disch := first | omega | rfl) only []) | (refine LG_go ?_; simp (config := { maxSteps := 2000000 }) (disch := first | omega | rfl) only []) | (refine EvC.condT ?_ ?_; simp (config := { maxSteps := 2000000 }) (disch := first | omega | rfl) only []; refine EvC_go ?_) | (refine EvC.condF ?_ ?_; simp (config := { maxSteps := 2000000 }) (disch := first | omega | rfl) only []; refine EvC_go ?_))
  refine (nodesR_tells t _ _ (r1b.mono hx2 hb1.wf) hx2.wf).mono ?_
  rintro v H3 ⟨rfl, hx3⟩
  have hl3 := hx3.load hx2.wf hl2
  repeat' (first | refine EvC.seq ?_ | refine EvC.scope ?_ | refine EvC.block ?_ | (refine EvC.skip ?_; try simp only []) | (refine EvC.exit ?_; try simp only []) | (refine EvC.ret ?_; try simp only [thenC_ret, inBlock_ret]) | (refine EvC.reg ?_; simp (config := { maxSteps := 2000000 }) (disch := first | omega | rfl) only []) | (refine EvC.drw [([(0, 0), (1, 0), (2, 0)], some 3), ([(4, 0)], some 5), ([(6, 2), (7, 2), (8, 2), (9, 2)], some 10), ([(11, 2)], some 12), ([(13, 4), (14, 4), (15, 4)], none)] ?_ ?_; kernel_rfl; simp (config := { maxSteps := 2000000 }) (disch := first | omega | rfl) only []) | (refine SCK_go ?_; simp (config := { maxSteps := 2000000 }) (disch := first | omega | rfl) only [dop_move, dop_pick, dPick_bool, dop_load, dop_bin, ev_const, ev_tmp, Tr.get_put, put_some, Nat.reduceEqDiff, Option.getD_some, Nat.reduceAdd, Nat.zero_add, reduceCtorEq, if_true, if_false, dloadA_some, List.take_zero, List.length_cons, List.length_nil, List.map_cons, List.map_nil, and_self, true_and, guardOf_eq, guardGet_some, List.getElem?_cons_succ, List.getElem?_cons_zero, dBin_eql, ld26, cl15, hl3, ieq_t, ES_some, STG_op, STG_eff, SOP_none, SOP_guard, SGD_tt, SGO_read, SRD_val, SEF_guard, SEG_tt, SLK_call, isAlloc, isRead, or_true, true_and, sameOn_nil, Nat.sub_self, reduceCtorEq, and_self]) | (refine ES_go ?_; simp (config := { maxSteps := 2000000 }) (disch := first | omega | rfl) only []) | (refine STG_go ?_; simp (config := { maxSteps := 2000000 }) (disch := first | omega | rfl) only []) | (refine SRD_go ?_; simp (config := { maxSteps := 2000000 }) (disch := first | omega | rfl) only []) | (refine SLK_go ?_; simp (config := { maxSteps := 2000000 }) (disch := first | omega | rfl) only []) | (refine EL_go ?_; simp (config := { maxSteps := 2000000 }) (disch := first | omega | rfl) only []) | (refine LX_go ?_; simp (config := { maxSteps := 2000000 }) (disch := first | omega | rfl) only []) | (refine LG_go ?_; simp (config := { maxSteps := 2000000 }) (disch := first | omega | rfl) only []) | (refine EvC.condT ?_ ?_; simp (config := { maxSteps := 2000000 }) (disch := first | omega | rfl) only []; refine EvC_go ?_) | (refine EvC.condF ?_ ?_; simp (config := { maxSteps := 2000000 }) (disch := first | omega | rfl) only []; refine EvC_go ?_))
  refine (check_tells t _ _ ((r1b.mono hx2 hb1.wf).mono hx3 hx2.wf) hx3.wf).mono ?_
  rintro v H4 ⟨rfl, hx4⟩
  have hl4 := hx4.load hx3.wf hl3
  repeat' (first | refine EvC.seq ?_ | refine EvC.scope ?_ | refine EvC.block ?_ | (refine EvC.skip ?_; try simp only []) | (refine EvC.exit ?_; try simp only []) | (refine EvC.ret ?_; try simp only [thenC_ret, inBlock_ret]) | (refine EvC.reg ?_; simp (config := { maxSteps := 2000000 }) (disch := first | omega | rfl) only []) | (refine EvC.drw [([(0, 0), (1, 0), (2, 0)], some 3), ([(4, 0)], some 5), ([(6, 2), (7, 2), (8, 2), (9, 2)], some 10), ([(11, 2)], some 12), ([(13, 4), (14, 4), (15, 4)], none)] ?_ ?_; kernel_rfl; simp (config := { maxSteps := 2000000 }) (disch := first | omega | rfl) only []) | (refine SCK_go ?_; simp (config := { maxSteps := 2000000 }) (disch := first | omega | rfl) only [dop_load, ev_tmp, Tr.get_put, put_some, Nat.reduceEqDiff, Option.getD_some, Nat.reduceAdd, Nat.zero_add, Bool.and_self, reduceCtorEq, if_true, if_false, dloadA_some, List.take_succ_cons, List.take_zero, List.length_cons, List.length_nil, Nat.beq_refl, List.map_cons, List.map_nil, and_self, true_and, guardOf_eq, guardGet_some, List.getElem?_cons_succ, List.getElem?_cons_zero, ld26, cl16, hl3, hl4, veq_term, ES_some, STG_op, STG_eff, SOP_guard, SGD_tt, SGO_read, SRD_val, SEF_guard, SEG_tt, SLK_call, isAlloc, isRead, or_true, true_and, sameOn_nil, reduceCtorEq, sameOn_cons, sameK_val, and_self, Bool.and_self]) | (refine ES_go ?_; simp (config := { maxSteps := 2000000 }) (disch := first | omega | rfl) only []) | (refine STG_go ?_; simp (config := { maxSteps := 2000000 }) (disch := first | omega | rfl) only []) | (refine SRD_go ?_; simp (config := { maxSteps := 2000000 }) (disch := first | omega | rfl) only []) | (refine SLK_go ?_; simp (config := { maxSteps := 2000000 }) (disch := first | omega | rfl) only []) | (refine EL_go ?_; simp (config := { maxSteps := 2000000 }) (disch := first | omega | rfl) only []) | (refine LX_go ?_; simp (config := { maxSteps := 2000000 }) (disch := first | omega | rfl) only []) | (refine LG_go ?_; simp (config := { maxSteps := 2000000 }) (disch := first | omega | rfl) only []) | (refine EvC.condT ?_ ?_; simp (config := { maxSteps := 2000000 }) (disch := first | omega | rfl) only []; refine EvC_go ?_) | (refine EvC.condF ?_ ?_; simp (config := { maxSteps := 2000000 }) (disch := first | omega | rfl) only []; refine EvC_go ?_))
  refine (checkR_tells t _ _ (((r1b.mono hx2 hb1.wf).mono hx3 hx2.wf).mono hx4 hx3.wf) hx4.wf).mono ?_
  rintro v H5 ⟨rfl, hx5⟩
  repeat' (first | refine EvC.seq ?_ | refine EvC.scope ?_ | refine EvC.block ?_ | (refine EvC.skip ?_; try simp only []) | (refine EvC.exit ?_; try simp only []) | (refine EvC.ret ?_; try simp only [thenC_ret, inBlock_ret]) | (refine EvC.reg ?_; simp (config := { maxSteps := 2000000 }) (disch := first | omega | rfl) only []) | (refine EvC.drw [([(0, 0), (1, 0), (2, 0)], some 3), ([(4, 0)], some 5), ([(6, 2), (7, 2), (8, 2), (9, 2)], some 10), ([(11, 2)], some 12), ([(13, 4), (14, 4), (15, 4)], none)] ?_ ?_; kernel_rfl; simp (config := { maxSteps := 2000000 }) (disch := first | omega | rfl) only []) | (refine SCK_go ?_; simp (config := { maxSteps := 2000000 }) (disch := first | omega | rfl) only [dop_assign, dop_pick, dPick_bool, dop_bin, ev_const, ev_tmp, Tr.get_put, put_some, Nat.reduceEqDiff, Option.getD_some, Nat.reduceAdd, Nat.zero_add, reduceCtorEq, if_true, if_false, List.take_zero, List.length_cons, List.length_nil, and_self, true_and, guardOf_eq, guardGet_some, List.getElem?_cons_succ, List.getElem?_cons_zero, dBin_eql, ieq_t, ES_none, STG_op, STG_end, SOP_none, SOP_guard, SGD_tt, SGO_read, SRD_val, isAlloc, isRead, or_true, true_and, sameOn_nil, Nat.sub_self, reduceCtorEq, and_self]) | (refine ES_go ?_; simp (config := { maxSteps := 2000000 }) (disch := first | omega | rfl) only []) | (refine STG_go ?_; simp (config := { maxSteps := 2000000 }) (disch := first | omega | rfl) only []) | (refine SRD_go ?_; simp (config := { maxSteps := 2000000 }) (disch := first | omega | rfl) only []) | (refine SLK_go ?_; simp (config := { maxSteps := 2000000 }) (disch := first | omega | rfl) only []) | (refine EL_go ?_; simp (config := { maxSteps := 2000000 }) (disch := first | omega | rfl) only []) | (refine LX_go ?_; simp (config := { maxSteps := 2000000 }) (disch := first | omega | rfl) only []) | (refine LG_go ?_; simp (config := { maxSteps := 2000000 }) (disch := first | omega | rfl) only []) | (refine EvC.condT ?_ ?_; simp (config := { maxSteps := 2000000 }) (disch := first | omega | rfl) only []; refine EvC_go ?_) | (refine EvC.condF ?_ ?_; simp (config := { maxSteps := 2000000 }) (disch := first | omega | rfl) only []; refine EvC_go ?_))
  exact leave_one rfl (by first | (simp only [Tr.get_put, Nat.reduceEqDiff, reduceCtorEq, if_true, if_false]; rfl) | simp only [Tr.get_put, Nat.reduceEqDiff, reduceCtorEq, if_true, if_false]) rfl
end Go.Proofs.YtlllbkjiadcloaaDoor.hb
end

-- Fm
section
/- The abstract machine in small pieces (made by genfm.py out of its text): the same runs, cheap for the kernel. -/
namespace Go.Hb
open Go Go.RowKit

def o1 (P : Program) (o : Oper) (ρ : Operand → Value) (H : Heap) : Option Dr :=
  match o.op with
  | .pick c a b => match ρ c with
    | .bool true => some (.val (ρ a) H)
    | .bool false => some (.val (ρ b) H)
    | _ => none
  | _ => none

def o2 (P : Program) (o : Oper) (ρ : Operand → Value) (H : Heap) : Option Dr :=
  match o.op with
  | .alloc e => match pureRun P (zeroValue e) with
    | some z => if flat z && z.cells.toList.all one then some (.val (.pointer (some ⟨H.next, 0, none⟩)) (H.new (some (.row z.cells.toList e)))) else none
    | none => none
  | _ => none

def o3 (P : Program) (o : Oper) (ρ : Operand → Value) (H : Heap) : Option Dr :=
  match o.op with
  | .box e x => let v := ρ x
    if v.cells.toList.all one then some (.val (.pointer (some ⟨H.next, 0, none⟩)) (H.new (some (.row v.cells.toList e)))) else none
  | _ => none

def o4 (P : Program) (o : Oper) (ρ : Operand → Value) (H : Heap) : Option Dr :=
  match o.op with
  | .build t parts => if parts.toList.all (fun p => (ρ p.2).cells.toList.all one) && zflat P t then
      match pureRun P (Instr.build t (parts.map fun (i, x) => (i, ρ x))) with
      | some v => some (.val v H)
      | none => none
    else none
  | _ => none

def o5 (P : Program) (o : Oper) (ρ : Operand → Value) (H : Heap) : Option Dr :=
  match o.op with
  | .buildSlice t len parts => match P.underlying t with
    | some (.slice e) => match P.info? e with
      | some i => match i.zero with
        | some z =>
          let size := i.size
          if len ≤ most ∧ len * size ≤ most ∧ flat z = true ∧ z.cells.size = size ∧ z.cells.toList.all one = true ∧ parts.toList.all (fun p => (ρ p.2).cells.toList.all one) = true then
            match Instr.fill (fun i => some (i * size, size)) ((Array.range (len * size)).map (z.cells[· % z.cells.size]!)) (parts.toList.map fun p => (p.1, ρ p.2)) with
            | some cells => some (.val (.slice (some ⟨H.next, 0, none⟩) len len) (H.new (some (.row cells.toList e))))
            | none => none
          else none
        | none => none
      | none => none
    | _ => none
  | _ => none

def o6 (P : Program) (o : Oper) (ρ : Operand → Value) (H : Heap) : Option Dr :=
  match o.op with
  | .load t a => match ρ a with
    | .pointer (some ad) => (dload P t ad H).map (.val · H)
    | _ => none
  | _ => none

def o7 (P : Program) (o : Oper) (ρ : Operand → Value) (H : Heap) : Option Dr :=
  match o.op with
  | .store t a x => match ρ a with
    | .pointer (some ad) => let v := ρ x
      if Nat.beq v.cells.size (P.cellsOf t) && (P.info? t).isSome then (H.store ad v.cells.toList).map (.val undef ·) else none
    | _ => none
  | _ => none

def o8 (P : Program) (o : Oper) (ρ : Operand → Value) (H : Heap) : Option Dr :=
  match o.op with
  | .nilCheck x => match ρ x with
    | .pointer (some a) => some (.val (.pointer (some a)) H)
    | .func (.func f) a b => some (.val (.func (.func f) a b) H)
    | _ => none
  | _ => none

def o9 (P : Program) (o : Oper) (ρ : Operand → Value) (H : Heap) : Option Dr :=
  match o.op with
  | .binOp op t x y _ => match dnil P op t (ρ x) (ρ y) with
    | some v => some (.val v H)
    | none => dflat P o ρ H
  | _ => none

def o11 (P : Program) (o : Oper) (ρ : Operand → Value) (H : Heap) : Option Dr :=
  match o.op with
  | .convert src dst x => match P.underlying src, P.underlying dst, ρ x with
    | some (.slice e), some .string, .slice a n c => match P.underlying e with
      | some (.int .u8) => (dbytes (.slice a n c) H).map (.val · H)
      | _ => none
    | _, some (.slice _), _ => none
    | _, _, _ => dflat P o ρ H
  | _ => none

def o12 (P : Program) (o : Oper) (ρ : Operand → Value) (H : Heap) : Option Dr :=
  match o.op with
  | .makeInterface t x => match P.underlying t with
    | some (.interface _) => none
    | some _ => some (.val (.iface t (ρ x)) H)
    | none => none
  | _ => none

def o13 (P : Program) (o : Oper) (ρ : Operand → Value) (H : Heap) : Option Dr :=
  match o.op with
  | .makeFunc fn first captured => match fn with
    | .func f => some (.val (.func (.func f) (first.map ρ) (captured.map ρ)) H)
    | _ => none
  | _ => none

def o14 (P : Program) (o : Oper) (ρ : Operand → Value) (H : Heap) : Option Dr :=
  match o.op with
  | .makeMap _ none => some (.val (.map (some H.next)) (H.new (some (.map [] 0))))
  | _ => none

def o15 (P : Program) (o : Oper) (ρ : Operand → Value) (H : Heap) : Option Dr :=
  match o.op with
  | .makeSlice t l c => match P.underlying t with
    | some (.slice e) => match P.info? e, intBetween (ρ c) most with
      | some i, some cap => match i.zero, intBetween (ρ l) cap with
        | some z, some len =>
          let size := i.size
          if flat z = true ∧ z.cells.size = size ∧ i.bytes ≤ 4096 ∧ z.cells.toList.all one = true then
            some (.val (.slice (some ⟨H.next, 0, none⟩) len cap) (H.new (some (.row ((List.range (cap * size)).map (z.cells[· % z.cells.size]!)) e))))
          else none
        | _, _ => none
      | _, _ => none
    | _ => none
  | _ => none

def o16 (P : Program) (o : Oper) (ρ : Operand → Value) (H : Heap) : Option Dr :=
  match o.op with
  | .slice t x lo hi mx => match ρ x with
    | .string _ => dflat P o ρ H
    | v => dslice P t v (lo.map ρ) (hi.map ρ) (mx.map ρ) H
  | _ => none

def o17 (P : Program) (o : Oper) (ρ : Operand → Value) (H : Heap) : Option Dr :=
  match o.op with
  | .fieldAddr s x f => match P.underlying s, ρ x with
    | some (.struct fs), .pointer (some a) => match fs.toList[f]? with
      | some fd => if a.spot.isNone && !(Nat.beq (P.cellsOf fd.type) 0) then some (.val (.pointer (some ⟨a.block, a.off + fd.offset, none⟩)) H) else none
      | none => none
    | _, _ => none
  | _ => none

def o18 (P : Program) (o : Oper) (ρ : Operand → Value) (H : Heap) : Option Dr :=
  match o.op with
  | .field t x f => match P.underlying t, ρ x with
    | some (.struct fs), .agg cs => match fs.toList[f]? with
      | some fd => (dpart P fd.type cs fd.offset).map (.val · H)
      | none => none
    | _, _ => none
  | _ => none

def o19 (P : Program) (o : Oper) (ρ : Operand → Value) (H : Heap) : Option Dr :=
  match o.op with
  | .indexAddr t x ix => match P.underlying t, ρ x with
    | some (.slice e), .slice (some a) n _ => match intBetween (ρ ix) (n - 1), Nat.beq n 0, a.spot, (P.info? e).isSome with
      | some i, false, none, true => some (.val (.pointer (some ⟨a.block, a.off + i * P.cellsOf e, none⟩)) H)
      | _, _, _, _ => none
    | some (.array n e), .pointer (some a) => match intBetween (ρ ix) (n - 1), Nat.beq n 0, a.spot, (P.info? e).isSome with
      | some i, false, none, true => some (.val (.pointer (some ⟨a.block, a.off + i * P.cellsOf e, none⟩)) H)
      | _, _, _, _ => none
    | _, _ => none
  | _ => none

def o20 (P : Program) (o : Oper) (ρ : Operand → Value) (H : Heap) : Option Dr :=
  match o.op with
  | .index t x ix => match P.underlying t, ρ x with
    | some (.array n e), .agg cs => match intBetween (ρ ix) (n - 1), Nat.beq n 0 with
      | some i, false => (dpart P e cs (i * P.cellsOf e)).map (.val · H)
      | _, _ => none
    | _, _ => dflat P o ρ H
  | _ => none

def o24 (P : Program) (o : Oper) (ρ : Operand → Value) (H : Heap) : Option Dr :=
  match o.op with
  | .typeAssert x xt at_ ok => match ρ x with
    | .iface t v => (dassert P t v at_ ok).map (.val · H)
    | _ => dflat P o ρ H
  | _ => none

def o25 (P : Program) (o : Oper) (ρ : Operand → Value) (H : Heap) : Option Dr :=
  match o.op with
  | .extract t ix => match ρ t with
    | .tuple vs => (vs.toList[ix]?).map (.val · H)
    | _ => none
  | _ => none

def o26 (P : Program) (o : Oper) (ρ : Operand → Value) (H : Heap) : Option Dr :=
  match o.op with
  | .range t x => match P.underlying t, ρ x with
    | some .string, .string s => some (.val (.pointer (some ⟨H.next, 0, none⟩)) (H.new (some (.siter s 0))))
    | _, _ => none
  | _ => none

def o27 (P : Program) (o : Oper) (ρ : Operand → Value) (H : Heap) : Option Dr :=
  match o.op with
  | .next it true => match ρ it with
    | .pointer (some ⟨r, 0, _⟩) => match H.get r with
      | some (.siter s pos) =>
        if pos < s.size then
          let (c, width) := Utf8.decode s pos
          some (.val (.tuple #[.bool true, goInt pos, .int .i32 c]) (H.put r (some (.siter s (pos + width)))))
        else some (.val (.tuple #[.bool false]) H)
      | _ => none
    | _ => none
  | _ => none

def o28 (P : Program) (o : Oper) (ρ : Operand → Value) (H : Heap) : Option Dr :=
  match o.op with
  | .call c => match c.callee with
    | .builtin b => match b, c.args.toList with
      | .len, [x] => match ρ x with
        | .slice _ n _ => match (c.argTypes[0]?).bind P.underlying with
          | some (.slice _) => some (.val (goInt n) H)
          | _ => none
        | .map (some r) => match (c.argTypes[0]?).bind P.underlying, H.get r with
          | some (.map _ _), some (.map es _) => some (.val (goInt es.length) H)
          | _, _ => none
        | _ => dflat P o ρ H
      | .append, [s, x] => match c.argTypes.toList with
        | [t, xt] => match dzeros P t xt (ρ s) (ρ x) H with
          | some r => some r
          | none => dappend P c.argTypes (ρ s) (ρ x) H
        | _ => none
      | .cap, _ => dflat P o ρ H
      | .copy, [d, x] => dcopy P c.argTypes (ρ d) (ρ x) H
      | .delete, [m, k] => match c.argTypes[0]? with
        | some t => ddelete P t (ρ m) (ρ k) H
        | none => none
      | .recover, [] => some .recov
      | .min, _ | .max, _ => dflat P o ρ H
      | _, _ => none
    | .value f => match ρ f with
      | .func (.func f) first captured =>
        match dcall1 P f (first.toList ++ c.args.toList.map ρ ++ captured.toList) with
        | some r => some r
        | none => dflat P o ρ H
      | .func (.yield l) first _ => some (.yield l (first.toList ++ c.args.toList.map ρ))
      | _ => none
    | _ => none
  | _ => none

def o29 (P : Program) (o : Oper) (ρ : Operand → Value) (H : Heap) : Option Dr :=
  match o.op with
  | .defer c => match c.callee with
    | .value f => match ρ f with
      | .func (.func f) first captured => some (.dfr { target := .fn (.func f) captured, args := first ++ c.args.map ρ })
      | _ => none
    | _ => none
  | _ => none

def o30 (P : Program) (o : Oper) (ρ : Operand → Value) (H : Heap) : Option Dr :=
  match o.op with
  | .panic x => match ρ x with
    | .iface t v => some (.panic (.iface t v))
    | _ => none
  | _ => none

/-- plain arithmetic of integers of one kind -/
def fInt (op : BinOp) (k : IntKind) (a b : Int) : Option Value :=
  match op with
  | .add => some (.int k (k.wrap (a + b)))
  | .sub => some (.int k (k.wrap (a - b)))
  | .mul => some (.int k (k.wrap (a * b)))
  | .eql => some (.bool (a == b))
  | .neq => some (.bool (a != b))
  | .lss => some (.bool (decide (a < b)))
  | .leq => some (.bool (decide (a ≤ b)))
  | .gtr => some (.bool (decide (a > b)))
  | .geq => some (.bool (decide (a ≥ b)))
  | _ => none

def fop0 (P : Program) (o : Oper) (ρ : Operand → Value) (H : Heap) : Option Dr :=
  match o.op with
  | .move x | .assign x => some (.val (ρ x) H)
  | .pick c a b => o1 P o ρ H
  | .alloc e => o2 P o ρ H
  | .box e x => o3 P o ρ H
  | .build t parts => o4 P o ρ H
  | .buildSlice t len parts => o5 P o ρ H
  | .load t a => o6 P o ρ H
  | .store t a x => o7 P o ρ H
  | .nilCheck x => o8 P o ρ H
  | .binOp op t x y _ => o9 P o ρ H
  | .unOp .. => dflat P o ρ H
  | .convert src dst x => o11 P o ρ H
  | .makeInterface t x => o12 P o ρ H
  | .makeFunc fn first captured => o13 P o ρ H
  | .makeMap _ none => o14 P o ρ H
  | .makeSlice t l c => o15 P o ρ H
  | .slice t x lo hi mx => o16 P o ρ H
  | .fieldAddr s x f => o17 P o ρ H
  | .field t x f => o18 P o ρ H
  | .indexAddr t x ix => o19 P o ρ H
  | .index t x ix => o20 P o ρ H
  | .lookup t m k ok => dlookup P t (ρ m) (ρ k) ok H
  | .mapUpdate t m k x => dupdate P t (ρ m) (ρ k) (ρ x) H
  | .insert t m k x => dupdate P t (ρ m) (ρ k) (ρ x) H
  | .typeAssert x xt at_ ok => o24 P o ρ H
  | .extract t ix => o25 P o ρ H
  | .range t x => o26 P o ρ H
  | .next it true => o27 P o ρ H
  | .call c => o28 P o ρ H
  | .defer c => o29 P o ρ H
  | .panic x => o30 P o ρ H
  | _ => none

theorem fop0_eq (P : Program) (o : Oper) (ρ : Operand → Value) (H : Heap) : fop0 P o ρ H = dop P o ρ H := by
  obtain ⟨dst, op, ty, pos, af, g⟩ := o
  cases op <;> first | rfl | (rename_i a b; cases b <;> rfl)

def fBin (P : Program) (o : Oper) (ρ : Operand → Value) (H : Heap) (op : BinOp) (x y : Value) : Option Dr :=
  match x, y with
  | .int k a, .int k' b => match Nat.beq k.ctorIdx k'.ctorIdx, fInt op k a b with
    | true, some v => some (.val v H)
    | _, _ => fop0 P o ρ H
  | _, _ => fop0 P o ρ H

def fop (P : Program) (o : Oper) (ρ : Operand → Value) (H : Heap) : Option Dr :=
  match o.op with
  | .binOp op _ x y _ => fBin P o ρ H op (ρ x) (ρ y)
  | _ => fop0 P o ρ H

theorem fBin_eq {P : Program} {d : Option Tmp} {ty : TypeId} {pos : String} {af : Array Edge} {g : Option (Nat × Bool)} {ρ : Operand → Value} {H : Heap} {op : BinOp} {t u : TypeId} {x y : Operand} :
    fBin P ⟨d, .binOp op t x y u, ty, pos, af, g⟩ ρ H op (ρ x) (ρ y) = dop P ⟨d, .binOp op t x y u, ty, pos, af, g⟩ ρ H := by
  unfold fBin
  split
  · rename_i k a k' b hx hy
    split
    · rename_i v hk hv
      rw [Nat.beq_eq] at hk
      have hkk : k = k' := by cases k <;> cases k' <;> first | rfl | (simp [IntKind.ctorIdx] at hk)
      subst hkk
      show _ = dBin P op t x y (ρ x) (ρ y) H
      rw [hx, hy]
      unfold fInt at hv
      split at hv <;> cases hv
      all_goals (simp [dBin, dnil, flat, eqGuard, binOp, Op.intArith, Op.intCmp, Sem.bind]; rfl)
    · exact fop0_eq _ _ _ _
  · exact fop0_eq _ _ _ _

theorem fop_eq (P : Program) (o : Oper) (ρ : Operand → Value) (H : Heap) : fop P o ρ H = dop P o ρ H := by
  obtain ⟨dst, op, ty, pos, af, g⟩ := o
  cases op <;> first | exact fBin_eq | (unfold fop; exact fop0_eq _ _ _ _)

/-- the machine's functions, with so much fuel -/
structure Rec where
  code : Ctx → Code → St → Option (Ex × St)
  seq : Ctx → List Code → St → Option (Ex × St)
  ops : Ctx → Array Oper → List Nat → St → Option (Ex × St)
  op1 : Ctx → Oper → (Operand → Value) → List Deferred → Heap → Option R1
  draw : Ctx → Array Oper → Array Nat → List Nat → Nat → List Nat → Nat → List Heap → Tr Value → List Deferred → Option St
  stage : Ctx → Array Oper → Array Nat → List Nat → Nat → List Nat → Nat → List Heap → Tr Value → List Deferred → Option St
  call : FuncId → List Value → Heap → Option (En × Heap)
  leave : Func → Tr Value → List Deferred → Option (List PanicEntry) → Heap → Option (En × Heap)
  round : Nat → List Value → Heap → Option (Value × Heap)

def codeF (P : Program) (ok : Ok) (rr : Rec) : Ctx → Code → St → Option (Ex × St)
  | x, c, st =>
    match c with
    | .skip | .label _ => some (.normal, st)
    | .region _ ops false => rr.ops x ops (List.range ops.size) st
    | .region _ ops true =>
      let effs := (List.range ops.size).filter fun i => match ops[i]? with | some o => isEff o | none => false
      match rr.draw x ops (Region.before ops) effs st.H.next effs 0 [⟨st.H.next + ops.size, st.H.t⟩] st.tm st.ds with
      | some st1 => some (.normal, st1)
      | none => none
    | .seq a b => match rr.code x a st with
      | some (.normal, st1) => rr.code x b st1
      | r => r
    | .cond c a b => match ev st.tm c with
      | .bool true => rr.code x a st
      | .bool false => rr.code x b st
      | _ => none
    | .block id b => match rr.code x b st with
      | some (.exit j, st1) => if Nat.beq j id then some (.normal, st1) else some (.exit j, st1)
      | r => r
    | .scope b => rr.code x b st
    | .loop b => match rr.code x b st with
      | some (.normal, st1) => rr.code x (.loop b) st1
      | r => r
    | .exit id => some (.exit id, st)
    | .ret => some (.ret, st)
    | .rangeFunc f params assign body =>
      match x.round, ev st.tm f with
      | none, .func (.func g) first captured =>
        if (dcall1 P g []).isNone then none else
        let dl := st.H.next
        let H1 := st.H.new (some .dfr)
        let l := H1.next
        let H2 := H1.new (some (.loop .ready none x.fn st.tm params.toList assign body dl))
        match rr.call g (first.toList ++ [.func (.yield l) #[] #[]] ++ captured.toList) H2 with
        | some (.ret _, H3) => match H3.get l with
          | some (.loop s pend fn tm ps ags bo dd) => match s with
            | .busy => none
            | _ =>
              let H4 := H3.put l (some (.loop .exhausted pend fn tm ps ags bo dd))
              let st1 : St := ⟨st.tm, { target := .collected dl, args := #[] } :: st.ds, H4⟩
              match pend with
              | none => some (.normal, st1)
              | some c => rr.code x c st1
          | _ => none
        | _ => none
      | _, _ => none
    | _ => none

def seqF (P : Program) (ok : Ok) (rr : Rec) : Ctx → List Code → St → Option (Ex × St)
  | _, [], st => some (.normal, st)
  | x, c :: cs, st => match rr.code x c st with
    | some (.normal, st1) => rr.seq x cs st1
    | r => r

def opsF (P : Program) (ok : Ok) (rr : Rec) : Ctx → Array Oper → List Nat → St → Option (Ex × St)
  | _, _, [], st => some (.normal, st)
  | x, ops, i :: rest, st =>
    match ops[i]? with
    | none => none
    | some o => match dwanted ops st.tm o with
      | none => none
      | some false => rr.ops x ops rest (st.put o.dst undef st.H)
      | some true => match rr.op1 x o (ev st.tm) st.ds st.H with
        | some (.val v ds H) => rr.ops x ops rest (St.put ⟨st.tm, ds, st.H⟩ o.dst v H)
        | some (.panic ch H) => some (.panic ch, ⟨st.tm, st.ds, H⟩)
        | none => none

def op1F (P : Program) (ok : Ok) (rr : Rec) : Ctx → Oper → (Operand → Value) → List Deferred → Heap → Option R1
  | x, o, ρ, ds, H =>
    match fop P o ρ H with
    | some (.val v H') => some (.val v ds H')
    | some (.call f args) => match rr.call f args H with
      | some (.ret v, H') => some (.val v ds H')
      | some (.panic ch, H') => some (.panic ch H')
      | none => none
    | some (.yield l args) => match rr.round l args H with
      | some (v, H') => some (.val v ds H')
      | none => none
    | some (.dfr d) => match x.round with
      | none => some (.val undef (d :: ds) H)
      | some _ => none
    | some (.panic v) => some (.panic [{ v, recovered := false }] H)
    | _ => none

def drawF (P : Program) (ok : Ok) (rr : Rec) : Ctx → Array Oper → Array Nat → List Nat → Nat → List Nat → Nat → List Heap → Tr Value → List Deferred → Option St
  | x, ops, b, effs, base, es, done, hs, tm, ds =>
    match twin b es with
    | none => rr.stage x ops b effs base es done hs tm ds
    | some (e, f) => match rr.stage x ops b effs base [e, f] done hs tm ds, rr.stage x ops b effs base [f, e] done hs tm ds with
      | some st, some st' => match dtwin P ops b effs base done hs tm e f with
        | some (p, q) => if agree ops base p q st st' then some st else none
        | none => none
      | _, _ => none

def stageF (P : Program) (ok : Ok) (rr : Rec) : Ctx → Array Oper → Array Nat → List Nat → Nat → List Nat → Nat → List Heap → Tr Value → List Deferred → Option St
  | x, ops, b, effs, base, es, done, hs, tm, ds =>
    match hs with
    | [] => none
    | G :: _ => match es with
      | [] => match dnon P ops b effs base hs ((List.range ops.size).filter fun i => !done.testBit i && !effs.contains i) tm G with
        | some (tm1, H1) => some ⟨tm1, ds, H1⟩
        | none => none
      | e :: es =>
        let m := b.getD e 0
        match dnon P ops b effs base hs (pending (List.range ops.size) effs m done) tm G with
        | none => none
        | some (tm1, H1) => match ops[e]? with
          | none => none
          | some o =>
            let done1 := done ||| m ||| 2 ^ e
            match dwanted ops tm1 o with
            | none => none
            | some false => rr.draw x ops b effs base es done1 (H1 :: hs) (match o.dst with | some d => tm1.put d (some undef) | none => tm1) ds
            | some true => match rr.op1 x o (ev tm1) ds H1 with
              | some (.val v ds1 H2) => rr.draw x ops b effs base es done1 (H2 :: hs) (match o.dst with | some d => tm1.put d (some v) | none => tm1) ds1
              | _ => none

def callF (P : Program) (ok : Ok) (rr : Rec) : FuncId → List Value → Heap → Option (En × Heap)
  | f, args, H =>
    match ok.K f args H with
    | some r => some r
    | none => match P.funcs[f]?, ok.testBit f with
      | some fn, true => match fn.body with
        | some c => match rr.code ⟨f, none⟩ c ⟨initTm 0 args .nil, [], H⟩ with
          | some (.normal, st) | some (.ret, st) => rr.leave fn st.tm st.ds none st.H
          | some (.panic ch, st) => rr.leave fn st.tm st.ds (some ch) st.H
          | _ => none
        | none => none
      | _, _ => none

def leaveF (P : Program) (ok : Ok) (rr : Rec) : Func → Tr Value → List Deferred → Option (List PanicEntry) → Heap → Option (En × Heap)
  | fn, tm, [], none, H => match dres P fn tm H with
    | some v => some (.ret v, H)
    | none => none
  | _, _, [], some ch, H => some (.panic ch, H)
  | fn, tm, d :: ds, m, H => match d.target with
    | .collected l => match H.get l with
      | some .dfr => rr.leave fn tm ds m (H.put l none)
      | _ => none
    | .fn (.func g) captured => match P.funcs[g]?, ok.testBit g && (dcall1 P g []).isSome with
      | some gn, true => match gn.body with
        | some c => match headRegion c with
          | some (ops, rest) => match ops[0]? with
            | some o => if isRecover o then
                let r := drecov m
                let st0 := St.put ⟨initTm 0 (d.args.toList ++ captured.toList) .nil, [], H⟩ o.dst r.1 H
                match dplain P ops ((List.range ops.size).drop 1) st0.tm H with
                | some (tm1, H1) => match rr.seq ⟨g, none⟩ rest ⟨tm1, [], H1⟩ with
                  | some (.normal, st2) | some (.ret, st2) => if st2.ds.isEmpty && gn.results.isEmpty then rr.leave fn tm ds (dsettle r.2) st2.H else none
                  | _ => none
                | none => none
              else none
            | none => none
          | none => none
        | none => none
      | _, _ => none
    | _ => none

def roundF (P : Program) (ok : Ok) (rr : Rec) : Nat → List Value → Heap → Option (Value × Heap)
  | l, args, H => match H.get l with
    | some (.loop .ready pend fn tm ps ags bo dd) =>
      if Nat.beq args.length ps.length then
        let tm1 := (ps.zip args).foldl (fun t p => t.put p.1 (some p.2)) tm
        match rr.code ⟨fn, some l⟩ ags ⟨tm1, [], H⟩ with
        | some (.normal, st1) => match st1.H.get l with
          | some (.loop .ready pend1 fn1 tm1 ps1 as1 bo1 d1) =>
            match rr.code ⟨fn, some l⟩ bo ⟨st1.tm, st1.ds, st1.H.put l (some (.loop .busy pend1 fn1 tm1 ps1 as1 bo1 d1))⟩ with
            | some (.normal, st2) => dendRound l none (.bool true) .ready st2.H
            | some (.ret, st2) => dendRound l (some .ret) (.bool false) .done st2.H
            | some (.exit id, st2) => dendRound l (some (.exit id)) (.bool false) .done st2.H
            | _ => none
          | _ => none
        | _ => none
      else none
    | _ => none

def Rec.none : Rec := ⟨fun _ _ _ => Option.none, fun _ _ _ => Option.none, fun _ _ _ _ => Option.none, fun _ _ _ _ _ => Option.none, fun _ _ _ _ _ _ _ _ _ _ => Option.none, fun _ _ _ _ _ _ _ _ _ _ => Option.none, fun _ _ _ => Option.none, fun _ _ _ _ _ => Option.none, fun _ _ _ => Option.none⟩
def Rec.next (P : Program) (ok : Ok) (r : Rec) : Rec := ⟨codeF P ok r, seqF P ok r, opsF P ok r, op1F P ok r, drawF P ok r, stageF P ok r, callF P ok r, leaveF P ok r, roundF P ok r⟩
noncomputable def frun (P : Program) (ok : Ok) (n : Nat) : Rec := Nat.rec Rec.none (fun _ r => Rec.next P ok r) n

theorem fop_fun (P : Program) : fop P = dop P := by funext o ρ H; exact fop_eq P o ρ H

theorem codeF_eq (P : Program) (ok : Ok) (n : Nat) : codeF P ok ⟨dcode P ok n, dseq P ok n, dops P ok n, dop1 P ok n, ddraw P ok n, dstage P ok n, dcall P ok n, dleave P ok n, dround P ok n⟩ = dcode P ok (n + 1) := by
  funext a0 a1 a2
  cases a1 with
  | region i o d => cases d <;> (simp only [codeF, dcode]; try rfl)
  | _ => simp only [codeF, dcode]; try rfl

theorem seqF_eq (P : Program) (ok : Ok) (n : Nat) : seqF P ok ⟨dcode P ok n, dseq P ok n, dops P ok n, dop1 P ok n, ddraw P ok n, dstage P ok n, dcall P ok n, dleave P ok n, dround P ok n⟩ = dseq P ok (n + 1) := by
  funext a0 a1 a2
  cases a1 <;> (simp only [seqF, dseq]; try rfl)

theorem opsF_eq (P : Program) (ok : Ok) (n : Nat) : opsF P ok ⟨dcode P ok n, dseq P ok n, dops P ok n, dop1 P ok n, ddraw P ok n, dstage P ok n, dcall P ok n, dleave P ok n, dround P ok n⟩ = dops P ok (n + 1) := by
  funext a0 a1 a2 a3
  cases a2 <;> (simp only [opsF, dops]; try rfl)

theorem op1F_eq (P : Program) (ok : Ok) (n : Nat) : op1F P ok ⟨dcode P ok n, dseq P ok n, dops P ok n, dop1 P ok n, ddraw P ok n, dstage P ok n, dcall P ok n, dleave P ok n, dround P ok n⟩ = dop1 P ok (n + 1) := by
  funext a0 a1 a2 a3 a4
  simp only [op1F, dop1, fop_fun]; try rfl

theorem drawF_eq (P : Program) (ok : Ok) (n : Nat) : drawF P ok ⟨dcode P ok n, dseq P ok n, dops P ok n, dop1 P ok n, ddraw P ok n, dstage P ok n, dcall P ok n, dleave P ok n, dround P ok n⟩ = ddraw P ok (n + 1) := by
  funext a0 a1 a2 a3 a4 a5 a6 a7 a8 a9
  simp only [drawF, ddraw]; try rfl

theorem stageF_eq (P : Program) (ok : Ok) (n : Nat) : stageF P ok ⟨dcode P ok n, dseq P ok n, dops P ok n, dop1 P ok n, ddraw P ok n, dstage P ok n, dcall P ok n, dleave P ok n, dround P ok n⟩ = dstage P ok (n + 1) := by
  funext a0 a1 a2 a3 a4 a5 a6 a7 a8 a9
  cases a7 with
  | nil => simp only [stageF, dstage]; try rfl
  | cons G gs => cases a5 <;> (simp only [stageF, dstage]; try rfl)

theorem callF_eq (P : Program) (ok : Ok) (n : Nat) : callF P ok ⟨dcode P ok n, dseq P ok n, dops P ok n, dop1 P ok n, ddraw P ok n, dstage P ok n, dcall P ok n, dleave P ok n, dround P ok n⟩ = dcall P ok (n + 1) := by
  funext a0 a1 a2
  simp only [callF, dcall]; try rfl

theorem leaveF_eq (P : Program) (ok : Ok) (n : Nat) : leaveF P ok ⟨dcode P ok n, dseq P ok n, dops P ok n, dop1 P ok n, ddraw P ok n, dstage P ok n, dcall P ok n, dleave P ok n, dround P ok n⟩ = dleave P ok (n + 1) := by
  funext a0 a1 a2 a3 a4
  cases a2 with
  | nil => cases a3 <;> (simp only [leaveF, dleave]; try rfl)
  | cons d ds => simp only [leaveF, dleave]; try rfl

theorem roundF_eq (P : Program) (ok : Ok) (n : Nat) : roundF P ok ⟨dcode P ok n, dseq P ok n, dops P ok n, dop1 P ok n, ddraw P ok n, dstage P ok n, dcall P ok n, dleave P ok n, dround P ok n⟩ = dround P ok (n + 1) := by
  funext a0 a1 a2
  simp only [roundF, dround]; try rfl

theorem frun_eq (P : Program) (ok : Ok) : ∀ n, frun P ok n = ⟨dcode P ok n, dseq P ok n, dops P ok n, dop1 P ok n, ddraw P ok n, dstage P ok n, dcall P ok n, dleave P ok n, dround P ok n⟩
  | 0 => by
    show Rec.none = _
    unfold Rec.none
    congr 1 <;> funext <;> first | rw [dcode] | rw [dseq] | rw [dops] | rw [dop1] | rw [ddraw] | rw [dstage] | rw [dcall] | rw [dleave] | rw [dround]
  | n + 1 => by
    show Rec.next P ok (frun P ok n) = _
    rw [frun_eq P ok n, Rec.next]
    rw [codeF_eq, seqF_eq, opsF_eq, op1F_eq, drawF_eq, stageF_eq, callF_eq, leaveF_eq, roundF_eq]

end Go.Hb
end

-- Law2
section
/- Terms that come in. -/
namespace Go.Hb
open Go Go.RowKit

section
variable {H : Type} {enc : TypeId × Value → H} {P : Program} {W : World} {sp : Nat → Bool} {fuel : Nat} {t e : TypeId} {cs : List Value} {d : DataW H} {ps : List MemPlace}

theorem ab_int {k : IntKind} {n : Int} : ab P W (.int k n) = .int k n := rfl
theorem ab_string {s : ByteArray} : ab P W (.string s) = .string s := rfl
theorem ab_bool {b : Bool} : ab P W (.bool b) = .bool b := rfl
theorem ab_nilslice : ab P W (.slice none 0 0) = .slice none 0 0 := rfl

theorem trod_int {k : IntKind} (ht : P.underlying t = some (.int k)) (h : DataW.trod enc P W 0 sp true fuel t cs = some (d, ps)) : ∃ n, cs = [.int k n] ∧ (Lit.int k n).wf = true := by
  cases fuel with
  | zero => simp [DataW.trod] at h
  | succ m =>
    unfold DataW.trod at h
    rw [ht] at h
    split at h <;> simp_all
theorem trod_string (ht : P.underlying t = some .string) (h : DataW.trod enc P W 0 sp true fuel t cs = some (d, ps)) : ∃ s : ByteArray, cs = [.string s] ∧ s.size ≤ maxLen := by
  cases fuel with
  | zero => simp [DataW.trod] at h
  | succ m =>
    unfold DataW.trod at h
    rw [ht] at h
    split at h <;> simp_all
theorem trod_bool (ht : P.underlying t = some .bool) (h : DataW.trod enc P W 0 sp true fuel t cs = some (d, ps)) : ∃ b, cs = [.bool b] := by
  cases fuel with
  | zero => simp [DataW.trod] at h
  | succ m =>
    unfold DataW.trod at h
    rw [ht] at h
    split at h <;> simp_all
theorem trod_slice (ht : P.underlying t = some (.slice e)) (h : DataW.trod enc P W 0 sp true fuel t cs = some (d, ps)) :
    cs = [.slice none 0 0] ∨ ∃ a len cap m, fuel = m + 1 ∧ cs = [.slice (some a) len cap] ∧ len ≤ cap ∧ cap ≤ maxLen ∧
      ∀ i, i < len → ∃ es d' ps', W.cells? 0 (a.add (i * P.cellsOf e)) (P.cellsOf e) = some es ∧ DataW.trod enc P W 0 sp true m e es = some (d', ps') := by
  cases fuel with
  | zero => simp [DataW.trod] at h
  | succ m =>
    unfold DataW.trod at h
    rw [ht] at h
    split at h <;> simp_all
    obtain ⟨⟨hl, hc⟩, h⟩ := h
    simp only [Option.bind_eq_some_iff, Option.map_eq_some_iff] at h
    obtain ⟨elems, he, _⟩ := h
    refine ⟨_, _, _, ⟨rfl, rfl, rfl⟩, hl, hc, fun i hi => ?_⟩
    have hlen := mapM_some_length he
    have := mapM_some_get he i i (by simp [hi])
    rw [List.getElem?_eq_getElem (by rw [hlen]; simpa using hi)] at this
    simp only [Option.bind_eq_some_iff] at this
    obtain ⟨es, h1, h2⟩ := this
    exact ⟨es, h1, _, _, h2⟩
theorem trod_struct {fs : Array Field} (ht : P.underlying t = some (.struct fs)) (h : DataW.trod enc P W 0 sp true fuel t cs = some (d, ps)) :
    ∃ m, fuel = m + 1 ∧ cs.length = P.cellsOf t ∧ ∀ (i : Nat) (f : Field), fs[i]? = some f → ∃ d' ps', DataW.trod enc P W 0 sp true m f.type ((cs.drop f.offset).take (P.cellsOf f.type)) = some (d', ps') := by
  cases fuel with
  | zero => simp [DataW.trod] at h
  | succ m =>
    unfold DataW.trod at h
    rw [ht] at h
    split at h <;> simp_all
    subst_vars
    obtain ⟨hl, xs, hx, _⟩ := h
    intro i f hf
    have hlen := mapM_some_length hx
    have := mapM_some_get hx i f (by simpa using hf)
    have hi := (Array.getElem?_eq_some_iff.1 hf).1
    rw [List.getElem?_eq_getElem (by rw [hlen]; simpa using hi)] at this
    exact ⟨_, _, this⟩
theorem blk_add (a : Addr) (i : Nat) : (a.add i).block = a.block := by unfold Addr.add; split <;> rfl
theorem add_spot {a : Addr} {i : Nat} : (a.add i).spot = none ∨ (a.add i).spot = a.spot := by
  unfold Addr.add
  split
  · exact .inr rfl
  · exact .inl rfl
/-- an element of a slice, in the world's abstraction -/
theorem elem_load {a : Addr} {s i : Nat} {es : List Value} (hs : 0 < s) (h : W.cells? 0 (a.add (i * s)) s = some es) (hsp : a.spot = none) : (heapW P W).load ⟨a.block, a.off + i * s, none⟩ s = some (es.map (ab P W)) ∧ es.length = s ∧ a.block < W.heap.size := by
  obtain ⟨_, hl, hc⟩ := World.cells?_some h
  obtain ⟨b, o, sp⟩ := a
  obtain rfl : sp = none := hsp
  have hb := World.cells?_block h hs
  rw [blk_add] at hb
  refine ⟨load_world hs hl fun j v hj => ?_, hl, hb⟩
  have hjl : j < es.length := (List.getElem?_eq_some_iff.1 hj).1
  have := hc j (by omega)
  rw [add0, add0] at this
  rw [this]; exact hj
/-- a slice of which an element is read has a plain place, unless none is -/
theorem slice_spot {a : Addr} {s : Nat} {es : List Value} (hs : 0 < s) (h : W.cells? 0 (a.add (0 * s)) s = some es) : a.spot = none := by
  obtain ⟨_, hl, hc⟩ := World.cells?_some h
  have e0 : ∀ a : Addr, a.add 0 = a := fun a => by unfold Addr.add; simp
  have := hc 0 hs
  rw [Nat.zero_mul, e0, e0, List.getElem?_eq_getElem (by omega)] at this
  unfold World.cell? at this
  split at this
  · split at this
    · cases this
    · rename_i hn; simpa using hn
  · cases this
end

section
variable {H : Type} {enc : TypeId × Value → H} {P : Program} {W : World} {sp : Nat → Bool}
/-- the types of terms -/
structure TermTypes (P : Program) (tT tS tI tG tU : TypeId) : Prop where
  fields : ∃ fs : Array Field, P.underlying tT = some (.struct fs) ∧ (fs.toList.map fun f => (f.offset, f.type)) = [(0, tI), (1, tG), (2, tG), (3, tU), (4, tI), (5, tS)]
  slice : P.underlying tS = some (.slice tT)
  int : P.underlying tI = some (.int .i64)
  str : P.underlying tG = some .string
  u64 : P.underlying tU = some (.int .u64)
  cT : P.cellsOf tT = 6
  cS : P.cellsOf tS = 1
  cI : P.cellsOf tI = 1
  cG : P.cellsOf tG = 1
  cU : P.cellsOf tU = 1

theorem wf_i64 {n : Int} (h : (Lit.int .i64 n).wf = true) : i64 n := by
  unfold i64
  unfold Lit.wf at h
  simp [IntKind.min, IntKind.max, IntKind.bits, IntKind.signed] at h
  exact h
theorem wf_u64 {n : Int} (h : (Lit.int .u64 n).wf = true) : u64 n := by
  unfold u64
  unfold Lit.wf at h
  simp [IntKind.min, IntKind.max, IntKind.bits, IntKind.signed] at h
  exact h
theorem one_at {cs : List Value} {o : Nat} {v : Value} (h : (cs.drop o).take 1 = [v]) : cs[o]? = some v := by
  have : ((cs.drop o).take 1)[0]? = some v := by rw [h]; rfl
  simpa [List.getElem?_take, List.getElem?_drop] using this
theorem list_six {cs : List Value} {a b c d e f : Value} (hl : cs.length = 6) (h0 : cs[0]? = some a) (h1 : cs[1]? = some b) (h2 : cs[2]? = some c) (h3 : cs[3]? = some d) (h4 : cs[4]? = some e) (h5 : cs[5]? = some f) : cs = [a, b, c, d, e, f] := by
  match cs, hl with
  | [_, _, _, _, _, _], _ => simp at h0 h1 h2 h3 h4 h5; simp [h0, h1, h2, h3, h4, h5]
theorem rep_of_trod {tT tS tI tG tU : TypeId} (T : TermTypes P tT tS tI tG tU) : ∀ (fuel : Nat) (cs : List Value) (d : DataW H) (ps : List MemPlace), DataW.trod enc P W 0 sp true fuel tT cs = some (d, ps) → ∃ t, RepT (heapW P W) t (cs.map (ab P W)) := by
  intro fuel
  induction fuel using Nat.strongRecOn with
  | _ fuel ih =>
  intro cs d ps h
  obtain ⟨fs, hf, hfs⟩ := T.fields
  obtain ⟨m, rfl, hl, hall⟩ := trod_struct hf h
  rw [T.cT] at hl
  have fld : ∀ i o u, ((fs.toList.map fun f => (f.offset, f.type)))[i]? = some (o, u) → P.cellsOf u = 1 → ∃ d' ps', DataW.trod enc P W 0 sp true m u ((cs.drop o).take 1) = some (d', ps') := fun i o u hi hu => by
    rw [List.getElem?_map, Option.map_eq_some_iff] at hi
    obtain ⟨f, hf1, hf2⟩ := hi
    obtain ⟨d', ps', hd⟩ := hall i f (by simpa using hf1)
    cases hf2
    rw [hu] at hd
    exact ⟨d', ps', hd⟩
  rw [hfs] at fld
  obtain ⟨d0, p0, t0⟩ := fld 0 0 tI rfl T.cI
  obtain ⟨d1, p1, t1⟩ := fld 1 1 tG rfl T.cG
  obtain ⟨d2, p2, t2⟩ := fld 2 2 tG rfl T.cG
  obtain ⟨d3, p3, t3⟩ := fld 3 3 tU rfl T.cU
  obtain ⟨d4, p4, t4⟩ := fld 4 4 tI rfl T.cI
  obtain ⟨d5, p5, t5⟩ := fld 5 5 tS rfl T.cS
  obtain ⟨k, h0, w0⟩ := trod_int T.int t0
  obtain ⟨s, h1, w1⟩ := trod_string T.str t1
  obtain ⟨u, h2, w2⟩ := trod_string T.str t2
  obtain ⟨b, h3, w3⟩ := trod_int T.u64 t3
  obtain ⟨v, h4, w4⟩ := trod_int T.int t4
  rcases trod_slice T.slice t5 with h5 | ⟨a, n, c, m', rfl, h5, hnc, hcm, hel⟩
  · rw [list_six hl (one_at h0) (one_at h1) (one_at h2) (one_at h3) (one_at h4) (one_at h5)]
    exact ⟨.mk k s u b v [], .mk k s u b v [] none 0 (fun _ => []) (wf_i64 w0) w1 w2 (wf_u64 w3) (wf_i64 w4) (Nat.zero_le _) (Nat.le_refl _) (Nat.zero_le _) (fun _ => ⟨rfl, rfl⟩) (fun i ad hi => by simp at hi) (fun i t ht => by simp at ht)⟩
  · rw [list_six hl (one_at h0) (one_at h1) (one_at h2) (one_at h3) (one_at h4) (one_at h5)]
    rw [T.cT] at hel
    have hsp : 0 < n → a.spot = none := fun hn => by
      obtain ⟨es, _, _, he, _⟩ := hel 0 hn
      exact slice_spot (by omega) he
    have key : ∀ i, ∃ t cells, i < n → (heapW P W).load ⟨a.block, a.off + i * 6, none⟩ 6 = some cells ∧ RepT (heapW P W) t cells := fun i => by
      by_cases hi : i < n
      · obtain ⟨es, d', ps', he, ht⟩ := hel i hi
        obtain ⟨t, hr⟩ := ih m' (by omega) es d' ps' ht
        exact ⟨t, _, fun _ => ⟨(elem_load (by omega) he (hsp (by omega))).1, hr⟩⟩
      · exact ⟨.mk 0 s u 0 0 [], [], fun h => absurd h hi⟩
    obtain ⟨T', hT'⟩ := Classical.axiomOfChoice key
    obtain ⟨C, hC⟩ := Classical.axiomOfChoice hT'
    have hlen : ((List.range n).map T').length = n := by simp
    refine ⟨.mk k s u b v ((List.range n).map T'), ?_⟩
    by_cases hn : 0 < n
    · have hbl : a.block < W.heap.size := by
        obtain ⟨es, _, _, he, _⟩ := hel 0 hn
        exact (elem_load (P := P) (by omega) he (hsp hn)).2.2
      have hab : ab P W (.slice (some a) n c) = .slice (some a) ((List.range n).map T').length c := by
        unfold ab
        rw [hlen]
        simp only
        rw [if_pos ⟨hnc, hcm⟩, if_pos ⟨hsp hn, hbl⟩]
      simp only [List.map_cons, List.map_nil, ab_int, ab_string, hab]
      refine .mk k s u b v _ (some a) c C (wf_i64 w0) w1 w2 (wf_u64 w3) (wf_i64 w4) (by rw [hlen]; omega) (by rw [hlen]; exact hnc) hcm (fun h => by cases h) (fun i ad hi ha => ?_) (fun i t ht => ?_)
      · cases ha
        rw [hlen] at hi
        exact ⟨hsp hn, (hC i hi).1⟩
      · rw [List.getElem?_map, Option.map_eq_some_iff] at ht
        obtain ⟨j, hj, rfl⟩ := ht
        have hi : i < n := by have := (List.getElem?_eq_some_iff.1 hj).1; simpa using this
        rw [List.getElem?_range hi] at hj
        cases hj
        exact (hC i hi).2
    · have hn0 : n = 0 := by omega
      subst hn0
      obtain ⟨a', hab⟩ : ∃ a', ab P W (.slice (some a) 0 c) = .slice (some a') 0 c := by
        unfold ab
        simp only
        rw [if_pos ⟨hnc, hcm⟩]
        split
        · exact ⟨_, rfl⟩
        · exact ⟨_, rfl⟩
      simp only [List.map_cons, List.map_nil, ab_int, ab_string, hab, List.range_zero]
      exact .mk k s u b v [] (some a') c C (wf_i64 w0) w1 w2 (wf_u64 w3) (wf_i64 w4) (Nat.zero_le _) hnc hcm (fun h => by cases h) (fun i ad hi => by simp at hi) (fun i t ht => by simp at ht)
end
end Go.Hb
end
