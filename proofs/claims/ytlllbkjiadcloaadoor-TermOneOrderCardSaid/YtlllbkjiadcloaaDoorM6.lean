import Derived.Test.YtlllbkjiadcloaaDoorM5
import Derived.Test.YtlllbkjiadcloaaDoorM3
import Derived.Lib.ValidLaws
/- Lemmas on the program's own code, towards the laws of this folder, part 6. Conditions: as each lemma says. -/
-- W5
section
/- A node by itself: the program's 'node'. -/
namespace Go.Proofs.YtlllbkjiadcloaaDoor.hb
open Go Go.RowKit Go.Hb

/-- a float's bits, as the program looks at them: by three calls -/
def TellsN (ok : Ok) (f g h : FuncId) (fn fi : Int → Bool) : Prop := ∀ (n : Int) (H : Heap) , u64 n → H.wf → EvF Tryd.prog ok g [.float .f64 n.toNat] H (fun v H' => v = .bool (fn n) ∧ HX H H') ∧ EvF Tryd.prog ok h [.float .f64 n.toNat, .int .i64 0] H (fun v H' => v = .bool (fi n) ∧ HX H H')

theorem call103 : callable Tryd.prog 103 = true := by kernel_rfl
theorem call104 : callable Tryd.prog 104 = true := by kernel_rfl

variable {ok : Ok}
set_option maxRecDepth 10000 in
set_option maxHeartbeats 8000000 in
theorem node_ev {utf num : ByteArray → Bool} {fn fi : Int → Bool} (hk : ∀ args H, ok.K 84 args H = none) (hm : ok.testBit 84 = true) (hk2 : ∀ args H, ok.K 100 args H = none) (hm2 : ok.testBit 100 = true)
    (hU : TellsS ok 101 utf) (hN : TellsS ok 102 num) (hF : TellsN ok 89 103 104 fn fi)
    {t : Tm} {cs : List Value} {H : Heap} (r : RepT H t cs) (hw : H.wf) : EvF Tryd.prog ok 84 [.agg ⟨cs⟩] H fun v H' => v = .int .i64 (nodeE utf num (fun n => !(fn n || fi n || n == 9223372036854775808)) t) ∧ HX H H' := by
  have rr := r
  obtain ⟨a, c, cells, rfl, b1, b2, b3, b4, b5, rl⟩ := r.inv
  have hx := (HX.refl hw).new (some (Blk.row [Value.int IntKind.i64 t.kind, Value.string t.name, Value.string t.num, Value.int IntKind.u64 t.bits, Value.int IntKind.i64 t.var, Value.slice a t.args.length c] 26))
  refine EvF.enter (hk _ _) Tryd.func84 hm rfl ?_
  (repeat refine EvC.seq ?_); refine EvC.reg ?_; simp (config := { maxSteps := 2000000 }) (disch := first | omega | rfl) only [initTm, EL_cons, EL_nil, LX_val, dop_box, dBox, dop_assign, ev_const, ev_tmp, Tr.get_put, put_some, Option.getD_some, Value.cells, List.all_cons, List.all_nil, one, Bool.and_self, if_true, thenC_normal]
  (repeat refine EvC.seq ?_); refine EvC.block ?_
  -- the kind
  refine EvC.seq (EvC.reg ?_)
  by_cases hno : t.kind < 1 ∨ 5 < t.kind
  · have hlt : decide (t.kind < 1) = true ∨ (decide (t.kind < 1) = false ∧ decide (t.kind > 5) = true) := by
      by_cases h : t.kind < 1
      · exact .inl (by simp [h])
      · exact .inr ⟨by simp [h], by simp; omega⟩
    rcases hlt with h | ⟨h, h'⟩
    · try simp (config := { maxSteps := 2000000 }) (disch := first | omega | rfl) only [EL_cons, EL_nil, EL_guard, LX_val, LG_ft, dop_assign, dop_move, dop_pick, dPick_bool, dop_load, dop_fieldAddr, dop_bin, dBin_lss, ev_const, ev_tmp, Tr.get_put, put_some, Nat.reduceEqDiff, Option.getD_some, Nat.add_zero, Nat.zero_add, reduceCtorEq, if_true, if_false, load_new, cutC, dload1_some, List.drop_zero, List.take_succ_cons, List.take_zero, List.length_cons, List.length_nil, Nat.beq_refl, thenC_normal, guardOf_eq, guardGet_some, List.getElem?_cons_succ, List.getElem?_cons_zero, h, dFieldAddr_at fld26_0 one3, dLoad_one agg3]
      refine EvC.condT (by simp only [ev_tmp, Tr.get_put, Nat.reduceEqDiff, Option.getD_some, reduceCtorEq, if_true, if_false]) ?_
      (repeat refine EvC.seq ?_); refine EvC.reg ?_; simp (config := { maxSteps := 2000000 }) (disch := first | omega | rfl) only [EL_cons, EL_nil, LX_val, dop_assign, ev_const, put_some, thenC_normal]
      refine EvC.ret ?_
      try simp (config := { maxSteps := 2000000 }) (disch := first | omega | rfl) only [thenC_ret, inBlock_ret]
      exact leave_one rfl (by simp only [Tr.get_put, Nat.reduceEqDiff, reduceCtorEq, if_true, if_false]; rfl) ⟨by rw [nodeE, if_pos hno], hx⟩
    · try simp (config := { maxSteps := 2000000 }) (disch := first | omega | rfl) only [EL_cons, EL_nil, EL_guard, LX_val, LG_ff, LG_ft, dop_assign, dop_move, dop_pick, dPick_bool, dop_load, dop_fieldAddr, dop_bin, dBin_lss, dBin_gtr, ev_const, ev_tmp, Tr.get_put, put_some, Nat.reduceEqDiff, Option.getD_some, Nat.add_zero, Nat.zero_add, reduceCtorEq, if_true, if_false, load_new, cutC, dload1_some, List.drop_zero, List.take_succ_cons, List.take_zero, List.length_cons, List.length_nil, Nat.beq_refl, thenC_normal, guardOf_eq, guardGet_some, List.getElem?_cons_succ, List.getElem?_cons_zero, h, h', dFieldAddr_at fld26_0 one3, dLoad_one agg3, Bool.false_eq_true]
      refine EvC.condT (by simp only [ev_tmp, Tr.get_put, Nat.reduceEqDiff, Option.getD_some, reduceCtorEq, if_true, if_false]) ?_
      (repeat refine EvC.seq ?_); refine EvC.reg ?_; simp (config := { maxSteps := 2000000 }) (disch := first | omega | rfl) only [EL_cons, EL_nil, LX_val, dop_assign, ev_const, put_some, thenC_normal]
      refine EvC.ret ?_
      try simp (config := { maxSteps := 2000000 }) (disch := first | omega | rfl) only [thenC_ret, inBlock_ret]
      exact leave_one rfl (by simp only [Tr.get_put, Nat.reduceEqDiff, reduceCtorEq, if_true, if_false]; rfl) ⟨by rw [nodeE, if_pos hno], hx⟩
  have q1 : decide (t.kind < 1) = false := by simp; omega
  have q2 : decide (t.kind > 5) = false := by simp; omega
  try simp (config := { maxSteps := 2000000 }) (disch := first | omega | rfl) only [EL_cons, EL_guard, LX_val, LX_call, LG_ff, dop_move, dop_pick, dPick_bool, dop_load, dop_fieldAddr, dop_bin, dBin_lss, dBin_gtr, ev_const, ev_tmp, Tr.get_put, put_some, Nat.reduceEqDiff, Option.getD_some, Nat.reduceAdd, Nat.add_zero, Nat.zero_add, reduceCtorEq, if_true, if_false, load_new, cutC, dloadA_some, dload1_some, List.drop_zero, List.take_succ_cons, List.take_zero, List.length_cons, List.length_nil, Nat.beq_refl, List.map_cons, List.map_nil, thenC_normal, guardOf_eq, guardGet_some, List.getElem?_cons_succ, List.getElem?_cons_zero, dop_un, q1, q2, dFieldAddr_at fld26_0 one3, dLoad_one agg3, Bool.false_eq_true, dLoad_agg agg26, cells26, dop_call call100]
  refine (blank_ev hk2 hm2 (rr.mono hx hw) hx.wf).mono ?_
  rintro v H2 ⟨rfl, hx2⟩
  have hxx := hx.trans hx2
  have hb2 : H2.get H.next = some (Blk.row [Value.int IntKind.i64 t.kind, Value.string t.name, Value.string t.num, Value.int IntKind.u64 t.bits, Value.int IntKind.i64 t.var, Value.slice a t.args.length c] 26) := by rw [hx2.keep _ (Nat.lt_succ_self _), Heap.get_new, if_pos rfl]
  have l0 : H2.load ⟨H.next, 0, none⟩ 1 = some [.int .i64 t.kind] := by simp only [Heap.load, Heap.cells, hb2]; rfl
  have l1 : H2.load ⟨H.next, 1, none⟩ 1 = some [.string t.name] := by simp only [Heap.load, Heap.cells, hb2]; rfl
  have l2 : H2.load ⟨H.next, 2, none⟩ 1 = some [.string t.num] := by simp only [Heap.load, Heap.cells, hb2]; rfl
  have l3 : H2.load ⟨H.next, 3, none⟩ 1 = some [.int .u64 t.bits] := by simp only [Heap.load, Heap.cells, hb2]; rfl
  have l4 : H2.load ⟨H.next, 4, none⟩ 1 = some [.int .i64 t.var] := by simp only [Heap.load, Heap.cells, hb2]; rfl
  have l5 : H2.load ⟨H.next, 5, none⟩ 1 = some [.slice a t.args.length c] := by simp only [Heap.load, Heap.cells, hb2]; rfl
  cases hbl : blankB t with
  | false =>
    try simp (config := { maxSteps := 2000000 }) (disch := first | omega | rfl) only [EL_cons, EL_nil, EL_guard, LX_val, LG_ft, dop_assign, dop_move, dop_pick, dPick_bool, ev_const, ev_tmp, Tr.get_put, put_some, Nat.reduceEqDiff, Option.getD_some, reduceCtorEq, if_true, if_false, guardOf_eq, guardGet_some, List.getElem?_cons_succ, List.getElem?_cons_zero, un_not, Bool.not_false, Bool.false_eq_true]
    refine EvC.condT (by simp only [ev_tmp, Tr.get_put, Nat.reduceEqDiff, Option.getD_some, reduceCtorEq, if_true, if_false]) ?_
    (repeat refine EvC.seq ?_); refine EvC.reg ?_; simp (config := { maxSteps := 2000000 }) (disch := first | omega | rfl) only [EL_cons, EL_nil, LX_val, dop_assign, ev_const, put_some, thenC_normal]
    refine EvC.ret ?_
    try simp (config := { maxSteps := 2000000 }) (disch := first | omega | rfl) only [thenC_ret, inBlock_ret]
    exact leave_one rfl (by simp only [Tr.get_put, Nat.reduceEqDiff, reduceCtorEq, if_true, if_false]; rfl) ⟨by rw [nodeE, if_neg hno, if_pos hbl], hxx⟩
  | true =>
  by_cases hv : t.var < 0
  · have hd : decide (t.var < 0) = true := decide_eq_true hv
    try simp (config := { maxSteps := 2000000 }) (disch := first | omega | rfl) only [EL_cons, EL_nil, EL_guard, LX_val, LG_ff, dop_assign, dop_move, dop_pick, dPick_bool, dop_load, dop_fieldAddr, dop_bin, dBin_lss, ev_const, ev_tmp, Tr.get_put, put_some, Nat.reduceEqDiff, Option.getD_some, Nat.zero_add, reduceCtorEq, if_true, if_false, dload1_some, guardOf_eq, guardGet_some, List.getElem?_cons_succ, List.getElem?_cons_zero, un_not, l4, hd, dFieldAddr_at fld26_4 one3, dLoad_one agg3, Bool.not_true, Bool.false_eq_true]
    refine EvC.condT (by simp only [ev_tmp, Tr.get_put, Nat.reduceEqDiff, Option.getD_some, reduceCtorEq, if_true, if_false]) ?_
    (repeat refine EvC.seq ?_); refine EvC.reg ?_; simp (config := { maxSteps := 2000000 }) (disch := first | omega | rfl) only [EL_cons, EL_nil, LX_val, dop_assign, ev_const, put_some, thenC_normal]
    refine EvC.ret ?_
    try simp (config := { maxSteps := 2000000 }) (disch := first | omega | rfl) only [thenC_ret, inBlock_ret]
    exact leave_one rfl (by simp only [Tr.get_put, Nat.reduceEqDiff, reduceCtorEq, if_true, if_false]; rfl) ⟨by rw [nodeE_bnd hno hbl (by unfold bndB; rw [hd]; rfl)], hxx⟩
  have hd : decide (t.var < 0) = false := decide_eq_false hv
  try simp (config := { maxSteps := 2000000 }) (disch := first | omega | rfl) only [EL_cons, EL_nil, EL_guard, LX_val, LG_ff, dop_assign, dop_move, dop_pick, dPick_bool, dop_load, dop_fieldAddr, dop_bin, dBin_lss, ev_const, ev_tmp, Tr.get_put, put_some, Nat.reduceEqDiff, Option.getD_some, Nat.zero_add, reduceCtorEq, if_true, if_false, dload1_some, guardOf_eq, guardGet_some, List.getElem?_cons_succ, List.getElem?_cons_zero, un_not, l4, hd, dFieldAddr_at fld26_4 one3, dLoad_one agg3, Bool.not_true, Bool.false_eq_true]
  refine EvC.condF (by simp only [ev_tmp, Tr.get_put, Nat.reduceEqDiff, Option.getD_some, reduceCtorEq, if_true, if_false]) ?_
  refine EvC.frame (fun tm => tm.get 1 = some (.pointer (some ⟨H.next, 0, none⟩))) (by simp only [Tr.get_put, Nat.reduceEqDiff, reduceCtorEq, if_true, if_false]) ?_
  rintro tm g1
  -- the arguments
  refine EvC.seq ?_
  refine EvC.join (fun st => ∃ tm, st = ⟨tm, [], H2⟩ ∧ tm.get 1 = some (.pointer (some ⟨H.next, 0, none⟩)) ∧ tm.get 23 = some (.bool (t.kind == 5 && ((t.args.length : Int) == 0 || decide ((t.args.length : Int) > 64))))) ?_ ?_
  · refine EvC.reg ?_
    cases h2 : (t.kind == 5) <;> cases h3 : ((t.args.length : Int) == 0) <;> cases h4 : decide ((t.args.length : Int) > 64)
    all_goals
      try simp (config := { maxSteps := 2000000 }) (disch := first | omega | rfl) only [EL_cons, EL_nil, EL_guard, LX_val, LG_tt, LG_ff, LG_tf, LG_ft, LG_undef, dop_assign, dop_move, dop_pick, dPick_bool, dop_load, dop_fieldAddr, dop_bin, dBin_gtr, ev_const, ev_tmp, Tr.get_put, put_some, Nat.reduceEqDiff, Option.getD_some, Nat.add_zero, Nat.zero_add, if_true, if_false, dload1_some, thenC_normal, guardOf_eq, guardGet_some, List.getElem?_cons_succ, List.getElem?_cons_zero, dBin_eql, dop_len, g1, l0, l5, h2, h3, h4, dFieldAddr_at fld26_0 one3, dFieldAddr_at fld26_5 one24, dLoad_one agg3, dLoad_one agg24, dLn_slice Tryd.underlying24, Bool.false_eq_true]
      exact ⟨_, rfl, by simp only [Tr.get_put, Nat.reduceEqDiff, if_false]; exact g1, by simp only [Tr.get_put, Nat.reduceEqDiff, if_true, if_false]; rfl⟩
  clear g1 tm
  rintro st ⟨tm, rfl, g1, g23⟩
  try simp (config := { maxSteps := 2000000 }) (disch := first | omega | rfl) only [thenC_normal]
  cases hbad : (t.kind == 5 && ((t.args.length : Int) == 0 || decide ((t.args.length : Int) > 64))) with
  | true =>
    rw [hbad] at g23
    refine EvC.condT (by simp only [ev_tmp, Option.getD_some, g23]) ?_
    (repeat refine EvC.seq ?_); refine EvC.reg ?_; simp (config := { maxSteps := 2000000 }) (disch := first | omega | rfl) only [EL_cons, EL_nil, LX_val, dop_assign, ev_const, put_some, thenC_normal]
    refine EvC.ret ?_
    try simp (config := { maxSteps := 2000000 }) (disch := first | omega | rfl) only [thenC_ret, inBlock_ret]
    exact leave_one rfl (by simp only [Tr.get_put, if_true]; rfl) ⟨by rw [nodeE_bnd hno hbl (by unfold bndB; rw [hd, hbad]; rfl)], hxx⟩
  | false =>
  rw [hbad] at g23
  have hne := nodeE_rest (utf := utf) (num := num) (flt := fun n => !(fn n || fi n || n == 9223372036854775808)) hno hbl (by unfold bndB; rw [hd, hbad]; rfl)
  refine EvC.condF (by simp only [ev_tmp, Option.getD_some, g23]) ?_
  -- the name
  (repeat refine EvC.seq ?_); refine EvC.reg ?_; simp (config := { maxSteps := 2000000 }) (disch := first | omega | rfl) only [EL_cons, LX_val, LX_call, dop_load, dop_fieldAddr, ev_tmp, Tr.get_put, put_some, Nat.reduceEqDiff, Option.getD_some, Nat.zero_add, if_true, if_false, dload1_some, List.map_cons, List.map_nil, thenC_normal, dop_un, g1, l1, dFieldAddr_at fld26_1 one9, dLoad_one agg9, dop_call call101]
  refine (hU t.name _ b2 hx2.wf).mono ?_
  rintro v H3 ⟨rfl, hx3⟩
  have hxx3 := hxx.trans hx3
  have hlt2 : H.next < H2.next := Nat.lt_of_lt_of_le (Nat.lt_succ_self _) hx2.next
  have hb3 : H3.get H.next = some (Blk.row [Value.int IntKind.i64 t.kind, Value.string t.name, Value.string t.num, Value.int IntKind.u64 t.bits, Value.int IntKind.i64 t.var, Value.slice a t.args.length c] 26) := by rw [hx3.keep _ hlt2]; exact hb2
  have m0 : H3.load ⟨H.next, 0, none⟩ 1 = some [.int .i64 t.kind] := by simp only [Heap.load, Heap.cells, hb3]; rfl
  have m1 : H3.load ⟨H.next, 1, none⟩ 1 = some [.string t.name] := by simp only [Heap.load, Heap.cells, hb3]; rfl
  have m2 : H3.load ⟨H.next, 2, none⟩ 1 = some [.string t.num] := by simp only [Heap.load, Heap.cells, hb3]; rfl
  have m3 : H3.load ⟨H.next, 3, none⟩ 1 = some [.int .u64 t.bits] := by simp only [Heap.load, Heap.cells, hb3]; rfl
  cases hu : utf t.name with
  | false =>
    try simp (config := { maxSteps := 2000000 }) (disch := first | omega | rfl) only [EL_cons, EL_nil, EL_guard, LX_val, LG_ft, dop_assign, dop_move, dop_pick, dPick_bool, ev_const, ev_tmp, Tr.get_put, put_some, Nat.reduceEqDiff, Option.getD_some, if_true, if_false, guardOf_eq, guardGet_some, List.getElem?_cons_succ, List.getElem?_cons_zero, un_not, Bool.not_false]
    refine EvC.condT (by simp only [ev_tmp, Tr.get_put, Nat.reduceEqDiff, Option.getD_some, if_true, if_false]) ?_
    (repeat refine EvC.seq ?_); refine EvC.reg ?_; simp (config := { maxSteps := 2000000 }) (disch := first | omega | rfl) only [EL_cons, EL_nil, LX_val, dop_assign, ev_const, put_some, thenC_normal]
    refine EvC.ret ?_
    try simp (config := { maxSteps := 2000000 }) (disch := first | omega | rfl) only [thenC_ret, inBlock_ret]
    exact leave_one rfl (by simp only [Tr.get_put, Nat.reduceEqDiff, if_true, if_false]; rfl) ⟨by rw [hne, if_pos hu], hxx3⟩
  | true =>
  rw [if_neg (by rw [hu]; simp)] at hne
  by_cases hlen : 1000 < t.name.size
  · have hd : decide ((t.name.size : Int) > 1000) = true := decide_eq_true (by omega)
    try simp (config := { maxSteps := 2000000 }) (disch := first | omega | rfl) only [EL_cons, EL_nil, EL_guard, LX_val, LG_ff, dop_assign, dop_move, dop_pick, dPick_bool, dop_load, dop_fieldAddr, dop_bin, dBin_gtr, ev_const, ev_tmp, Tr.get_put, put_some, Nat.reduceEqDiff, Option.getD_some, Nat.zero_add, if_true, if_false, dload1_some, guardOf_eq, guardGet_some, List.getElem?_cons_succ, List.getElem?_cons_zero, un_not, dop_len, g1, m1, hd, dFieldAddr_at fld26_1 one9, dLoad_one agg9, dLn_string Tryd.underlying9, Bool.not_true, Bool.false_eq_true]
    refine EvC.condT (by simp only [ev_tmp, Tr.get_put, Nat.reduceEqDiff, Option.getD_some, if_true, if_false]) ?_
    (repeat refine EvC.seq ?_); refine EvC.reg ?_; simp (config := { maxSteps := 2000000 }) (disch := first | omega | rfl) only [EL_cons, EL_nil, LX_val, dop_assign, ev_const, put_some, thenC_normal]
    refine EvC.ret ?_
    try simp (config := { maxSteps := 2000000 }) (disch := first | omega | rfl) only [thenC_ret, inBlock_ret]
    exact leave_one rfl (by simp only [Tr.get_put, Nat.reduceEqDiff, if_true, if_false]; rfl) ⟨by rw [hne, if_pos hlen], hxx3⟩
  rw [if_neg hlen] at hne
  have hd2 : decide ((t.name.size : Int) > 1000) = false := decide_eq_false (by omega)
  try simp (config := { maxSteps := 2000000 }) (disch := first | omega | rfl) only [EL_cons, EL_nil, EL_guard, LX_val, LG_ff, dop_assign, dop_move, dop_pick, dPick_bool, dop_load, dop_fieldAddr, dop_bin, dBin_gtr, ev_const, ev_tmp, Tr.get_put, put_some, Nat.reduceEqDiff, Option.getD_some, Nat.zero_add, if_true, if_false, dload1_some, guardOf_eq, guardGet_some, List.getElem?_cons_succ, List.getElem?_cons_zero, un_not, dop_len, g1, m1, hd2, dFieldAddr_at fld26_1 one9, dLoad_one agg9, dLn_string Tryd.underlying9, Bool.not_true, Bool.false_eq_true]
  refine EvC.condF (by simp only [ev_tmp, Tr.get_put, Nat.reduceEqDiff, Option.getD_some, if_true, if_false]) ?_
  refine EvC.frame (fun tm => tm.get 1 = some (.pointer (some ⟨H.next, 0, none⟩))) (by simp only [Tr.get_put, Nat.reduceEqDiff, if_false]; exact g1) ?_
  clear g1 g23 tm
  rintro tm g1
  -- an integer
  refine EvC.seq (EvC.reg ?_)
  by_cases k3 : t.kind = 3
  · have q3 : (t.kind == 3) = true := by simp [k3]
    have q4 : (t.kind == 4) = false := by simp [k3]
    try simp (config := { maxSteps := 2000000 }) (disch := first | omega | rfl) only [EL_cons, EL_guard, LX_val, LX_call, LG_tt, dop_move, dop_load, dop_fieldAddr, dop_bin, ev_const, ev_tmp, Tr.get_put, put_some, Nat.reduceEqDiff, Option.getD_some, Nat.add_zero, Nat.zero_add, if_true, if_false, dload1_some, List.map_cons, List.map_nil, thenC_normal, guardOf_eq, guardGet_some, List.getElem?_cons_succ, List.getElem?_cons_zero, dBin_eql, dop_un, g1, m0, m2, q3, dFieldAddr_at fld26_0 one3, dFieldAddr_at fld26_2 one9, dLoad_one agg9, dLoad_one agg3, dop_call call102]
    refine (hN t.num _ b3 hx3.wf).mono ?_
    rintro v H4 ⟨rfl, hx4⟩
    have hb4 : H4.get H.next = some (Blk.row [Value.int IntKind.i64 t.kind, Value.string t.name, Value.string t.num, Value.int IntKind.u64 t.bits, Value.int IntKind.i64 t.var, Value.slice a t.args.length c] 26) := by rw [hx4.keep _ (Nat.lt_of_lt_of_le hlt2 hx3.next)]; exact hb3
    have n0 : H4.load ⟨H.next, 0, none⟩ 1 = some [.int .i64 t.kind] := by simp only [Heap.load, Heap.cells, hb4]; rfl
    cases hn : num t.num with
    | false =>
      try simp (config := { maxSteps := 2000000 }) (disch := first | omega | rfl) only [EL_cons, EL_nil, LX_val, dop_assign, dop_pick, dPick_bool, ev_const, ev_tmp, Tr.get_put, put_some, Nat.reduceEqDiff, Option.getD_some, if_true, if_false, un_not, Bool.not_false]
      refine EvC.condT (by simp only [ev_tmp, Tr.get_put, Nat.reduceEqDiff, Option.getD_some, if_true, if_false]) ?_
      (repeat refine EvC.seq ?_); refine EvC.reg ?_; simp (config := { maxSteps := 2000000 }) (disch := first | omega | rfl) only [EL_cons, EL_nil, LX_val, dop_assign, ev_const, put_some, thenC_normal]
      refine EvC.ret ?_
      try simp (config := { maxSteps := 2000000 }) (disch := first | omega | rfl) only [thenC_ret, inBlock_ret]
      exact leave_one rfl (by simp only [Tr.get_put, Nat.reduceEqDiff, if_true, if_false]; rfl) ⟨by rw [hne, if_pos ⟨k3, hn⟩], hxx3.trans hx4⟩
    | true =>
      try simp (config := { maxSteps := 2000000 }) (disch := first | omega | rfl) only [EL_cons, EL_nil, LX_val, dop_assign, dop_pick, dPick_bool, ev_const, ev_tmp, Tr.get_put, put_some, Nat.reduceEqDiff, Option.getD_some, if_true, if_false, un_not, Bool.not_true]
      refine EvC.condF (by simp only [ev_tmp, Tr.get_put, Nat.reduceEqDiff, Option.getD_some, if_true, if_false]) (EvC.skip ?_)
      try simp (config := { maxSteps := 2000000 }) (disch := first | omega | rfl) only [thenC_normal, inBlock_normal]
      (repeat refine EvC.seq ?_); refine EvC.reg ?_; simp (config := { maxSteps := 2000000 }) (disch := first | omega | rfl) only [EL_cons, EL_nil, LX_val, dop_load, dop_fieldAddr, dop_bin, ev_const, ev_tmp, Tr.get_put, put_some, Nat.reduceEqDiff, Option.getD_some, Nat.add_zero, if_true, if_false, dload1_some, thenC_normal, dBin_eql, g1, n0, q4, dFieldAddr_at fld26_0 one3, dLoad_one agg3]
      refine EvC.condF (by simp only [ev_tmp, Tr.get_put, Nat.reduceEqDiff, Option.getD_some, if_true, if_false]) (EvC.skip ?_)
      try simp (config := { maxSteps := 2000000 }) (disch := first | omega | rfl) only [thenC_normal]
      (repeat refine EvC.seq ?_); refine EvC.reg ?_; simp (config := { maxSteps := 2000000 }) (disch := first | omega | rfl) only [EL_cons, EL_nil, LX_val, dop_assign, ev_const, put_some, thenC_normal]
      refine EvC.ret ?_
      try simp (config := { maxSteps := 2000000 }) (disch := first | omega | rfl) only []
      exact leave_one rfl (by simp only [Tr.get_put, Nat.reduceEqDiff, if_true, if_false]; rfl) ⟨by rw [hne, if_neg (by rw [hn]; simp), if_neg (by rw [k3]; simp)], hxx3.trans hx4⟩
  have q3 : (t.kind == 3) = false := by simp [k3]
  rw [if_neg (fun h => k3 h.1)] at hne
  try simp (config := { maxSteps := 2000000 }) (disch := first | omega | rfl) only [EL_cons, EL_nil, EL_guard, LX_val, LG_tf, dop_assign, dop_move, dop_pick, dPick_bool, dop_load, dop_fieldAddr, dop_bin, ev_const, ev_tmp, Tr.get_put, put_some, Nat.reduceEqDiff, Option.getD_some, Nat.add_zero, if_true, if_false, dload1_some, thenC_normal, guardOf_eq, guardGet_some, List.getElem?_cons_succ, List.getElem?_cons_zero, dBin_eql, g1, m0, q3, dFieldAddr_at fld26_0 one3, dLoad_one agg3, Bool.false_eq_true]
  refine EvC.condF (by simp only [ev_tmp, Tr.get_put, Nat.reduceEqDiff, Option.getD_some, if_true, if_false]) (EvC.skip ?_)
  try simp (config := { maxSteps := 2000000 }) (disch := first | omega | rfl) only [thenC_normal, inBlock_normal]
  -- a float
  by_cases k4 : t.kind = 4
  · have q4 : (t.kind == 4) = true := by simp [k4]
    (repeat refine EvC.seq ?_); refine EvC.reg ?_; simp (config := { maxSteps := 2000000 }) (disch := first | omega | rfl) only [EL_cons, EL_nil, LX_val, dop_load, dop_fieldAddr, dop_bin, ev_const, ev_tmp, Tr.get_put, put_some, Nat.reduceEqDiff, Option.getD_some, Nat.add_zero, if_true, if_false, dload1_some, thenC_normal, dBin_eql, g1, m0, q4, dFieldAddr_at fld26_0 one3, dLoad_one agg3]
    refine EvC.condT (by simp only [ev_tmp, Tr.get_put, Nat.reduceEqDiff, Option.getD_some, if_true, if_false]) ?_
    (repeat refine EvC.seq ?_); refine EvC.reg ?_; simp (config := { maxSteps := 2000000 }) (disch := first | omega | rfl) only [EL_cons, LX_val, dop_load, dop_fieldAddr, ev_tmp, Tr.get_put, put_some, Nat.reduceEqDiff, Option.getD_some, Nat.zero_add, if_true, if_false, dload1_some, thenC_normal, g1, m3, dFieldAddr_at fld26_3 one23, dLoad_one agg23]
    rw [dop_frombits (n := t.bits) (by simp only [Tr.get_put, Nat.reduceEqDiff, if_true, if_false])]
    try simp (config := { maxSteps := 2000000 }) (disch := first | omega | rfl) only [EL_cons, EL_nil, LX_val, dop_assign, ev_tmp, Tr.get_put, put_some, Nat.reduceEqDiff, Option.getD_some, if_true, if_false]
    refine EvC.frame (fun tm => tm.get 1 = some (.pointer (some ⟨H.next, 0, none⟩)) ∧ tm.get 3 = some (.float .f64 t.bits.toNat)) ⟨by simp only [Tr.get_put, Nat.reduceEqDiff, if_false]; exact g1, by simp only [Tr.get_put, Nat.reduceEqDiff, if_true, if_false]⟩ ?_
    clear g1 tm
    rintro tm ⟨g1, g3⟩
    (repeat refine EvC.seq ?_); refine EvC.reg ?_; simp (config := { maxSteps := 2000000 }) (disch := first | omega | rfl) only [EL_cons, EL_guard, LX_val, LX_call, dop_move, ev_tmp, Tr.get_put, put_some, Nat.reduceEqDiff, Option.getD_some, if_true, if_false, List.map_cons, List.map_nil, thenC_normal, guardOf_eq, guardGet_some, List.getElem?_cons_succ, List.getElem?_cons_zero, g3, dop_call call103]
    refine (hF t.bits _ b4 hx3.wf).1.mono ?_
    rintro v H4 ⟨rfl, hx4⟩
    have hb4 : H4.get H.next = some (Blk.row [Value.int IntKind.i64 t.kind, Value.string t.name, Value.string t.num, Value.int IntKind.u64 t.bits, Value.int IntKind.i64 t.var, Value.slice a t.args.length c] 26) := by rw [hx4.keep _ (Nat.lt_of_lt_of_le hlt2 hx3.next)]; exact hb3
    cases hn : fn t.bits with
    | true =>
      try simp (config := { maxSteps := 2000000 }) (disch := first | omega | rfl) only [EL_cons, EL_nil, EL_guard, LX_val, LG_ft, dop_move, dop_pick, dPick_bool, ev_const, ev_tmp, Tr.get_put, put_some, Nat.reduceEqDiff, Option.getD_some, if_true, if_false, guardOf_eq, guardGet_some, List.getElem?_cons_succ, List.getElem?_cons_zero]
      refine EvC.condT (by simp only [ev_tmp, Tr.get_put, Nat.reduceEqDiff, Option.getD_some, if_true, if_false]) ?_
      (repeat refine EvC.seq ?_); refine EvC.reg ?_; simp (config := { maxSteps := 2000000 }) (disch := first | omega | rfl) only [EL_cons, EL_nil, LX_val, dop_assign, ev_const, put_some, thenC_normal]
      refine EvC.ret ?_
      try simp (config := { maxSteps := 2000000 }) (disch := first | omega | rfl) only [thenC_ret]
      exact leave_one rfl (by simp only [Tr.get_put, Nat.reduceEqDiff, if_true, if_false]; rfl) ⟨by rw [hne, if_pos ⟨k4, by rw [hn]; rfl⟩], hxx3.trans hx4⟩
    | false =>
    try simp (config := { maxSteps := 2000000 }) (disch := first | omega | rfl) only [EL_cons, EL_guard, LX_val, LX_call, LG_ff, dop_move, dop_pick, dPick_bool, ev_const, ev_tmp, Tr.get_put, put_some, Nat.reduceEqDiff, Option.getD_some, if_true, if_false, List.map_cons, List.map_nil, guardOf_eq, guardGet_some, List.getElem?_cons_succ, List.getElem?_cons_zero, g3, Bool.false_eq_true, dop_call call104]
    refine (hF t.bits _ b4 hx4.wf).2.mono ?_
    rintro v H5 ⟨rfl, hx5⟩
    have hb5 : H5.get H.next = some (Blk.row [Value.int IntKind.i64 t.kind, Value.string t.name, Value.string t.num, Value.int IntKind.u64 t.bits, Value.int IntKind.i64 t.var, Value.slice a t.args.length c] 26) := by rw [hx5.keep _ (Nat.lt_of_lt_of_le (Nat.lt_of_lt_of_le hlt2 hx3.next) hx4.next)]; exact hb4
    have n3 : H5.load ⟨H.next, 3, none⟩ 1 = some [.int .u64 t.bits] := by simp only [Heap.load, Heap.cells, hb5]; rfl
    cases hi : fi t.bits with
    | true =>
      try simp (config := { maxSteps := 2000000 }) (disch := first | omega | rfl) only [EL_cons, EL_nil, EL_guard, LX_val, LG_ft, dop_pick, dPick_bool, ev_const, ev_tmp, Tr.get_put, put_some, Nat.reduceEqDiff, Option.getD_some, if_true, if_false, guardOf_eq, guardGet_some, List.getElem?_cons_succ, List.getElem?_cons_zero]
      refine EvC.condT (by simp only [ev_tmp, Tr.get_put, Nat.reduceEqDiff, Option.getD_some, if_true, if_false]) ?_
      (repeat refine EvC.seq ?_); refine EvC.reg ?_; simp (config := { maxSteps := 2000000 }) (disch := first | omega | rfl) only [EL_cons, EL_nil, LX_val, dop_assign, ev_const, put_some, thenC_normal]
      refine EvC.ret ?_
      try simp (config := { maxSteps := 2000000 }) (disch := first | omega | rfl) only [thenC_ret]
      exact leave_one rfl (by simp only [Tr.get_put, Nat.reduceEqDiff, if_true, if_false]; rfl) ⟨by rw [hne, if_pos ⟨k4, by rw [hn, hi]; rfl⟩], (hxx3.trans hx4).trans hx5⟩
    | false =>
    cases hz : (t.bits == 9223372036854775808) with
    | true =>
      try simp (config := { maxSteps := 2000000 }) (disch := first | omega | rfl) only [EL_cons, EL_nil, EL_guard, LX_val, LG_ff, dop_pick, dPick_bool, dop_load, dop_fieldAddr, dop_bin, ev_const, ev_tmp, Tr.get_put, put_some, Nat.reduceEqDiff, Option.getD_some, Nat.zero_add, if_true, if_false, dload1_some, guardOf_eq, guardGet_some, List.getElem?_cons_succ, List.getElem?_cons_zero, dBin_eql, g1, n3, hz, dFieldAddr_at fld26_3 one23, dLoad_one agg23, Bool.false_eq_true]
      refine EvC.condT (by simp only [ev_tmp, Tr.get_put, Nat.reduceEqDiff, Option.getD_some, if_true, if_false]) ?_
      (repeat refine EvC.seq ?_); refine EvC.reg ?_; simp (config := { maxSteps := 2000000 }) (disch := first | omega | rfl) only [EL_cons, EL_nil, LX_val, dop_assign, ev_const, put_some, thenC_normal]
      refine EvC.ret ?_
      try simp (config := { maxSteps := 2000000 }) (disch := first | omega | rfl) only [thenC_ret]
      exact leave_one rfl (by simp only [Tr.get_put, Nat.reduceEqDiff, if_true, if_false]; rfl) ⟨by rw [hne, if_pos ⟨k4, by rw [hn, hi, hz]; rfl⟩], (hxx3.trans hx4).trans hx5⟩
    | false =>
      try simp (config := { maxSteps := 2000000 }) (disch := first | omega | rfl) only [EL_cons, EL_nil, EL_guard, LX_val, LG_ff, dop_pick, dPick_bool, dop_load, dop_fieldAddr, dop_bin, ev_const, ev_tmp, Tr.get_put, put_some, Nat.reduceEqDiff, Option.getD_some, Nat.zero_add, if_true, if_false, dload1_some, guardOf_eq, guardGet_some, List.getElem?_cons_succ, List.getElem?_cons_zero, dBin_eql, g1, n3, hz, dFieldAddr_at fld26_3 one23, dLoad_one agg23, Bool.false_eq_true]
      refine EvC.condF (by simp only [ev_tmp, Tr.get_put, Nat.reduceEqDiff, Option.getD_some, if_true, if_false]) (EvC.skip ?_)
      try simp (config := { maxSteps := 2000000 }) (disch := first | omega | rfl) only [thenC_normal]
      (repeat refine EvC.seq ?_); refine EvC.reg ?_; simp (config := { maxSteps := 2000000 }) (disch := first | omega | rfl) only [EL_cons, EL_nil, LX_val, dop_assign, ev_const, put_some, thenC_normal]
      refine EvC.ret ?_
      try simp (config := { maxSteps := 2000000 }) (disch := first | omega | rfl) only []
      exact leave_one rfl (by simp only [Tr.get_put, Nat.reduceEqDiff, if_true, if_false]; rfl) ⟨by rw [hne, if_neg (by rw [hn, hi, hz]; simp)], (hxx3.trans hx4).trans hx5⟩
  have q4 : (t.kind == 4) = false := by simp [k4]
  (repeat refine EvC.seq ?_); refine EvC.reg ?_; simp (config := { maxSteps := 2000000 }) (disch := first | omega | rfl) only [EL_cons, EL_nil, LX_val, dop_load, dop_fieldAddr, dop_bin, ev_const, ev_tmp, Tr.get_put, put_some, Nat.reduceEqDiff, Option.getD_some, Nat.add_zero, if_true, if_false, dload1_some, thenC_normal, dBin_eql, g1, m0, q4, dFieldAddr_at fld26_0 one3, dLoad_one agg3]
  refine EvC.condF (by simp only [ev_tmp, Tr.get_put, Nat.reduceEqDiff, Option.getD_some, if_true, if_false]) (EvC.skip ?_)
  try simp (config := { maxSteps := 2000000 }) (disch := first | omega | rfl) only [thenC_normal]
  (repeat refine EvC.seq ?_); refine EvC.reg ?_; simp (config := { maxSteps := 2000000 }) (disch := first | omega | rfl) only [EL_cons, EL_nil, LX_val, dop_assign, ev_const, put_some, thenC_normal]
  refine EvC.ret ?_
  try simp (config := { maxSteps := 2000000 }) (disch := first | omega | rfl) only []
  exact leave_one rfl (by simp only [Tr.get_put, Nat.reduceEqDiff, if_true, if_false]; rfl) ⟨by rw [hne, if_neg (fun h => k4 h.1)], hxx3⟩
end Go.Proofs.YtlllbkjiadcloaaDoor.hb
end

-- W6
section
/- All nodes of a term; Check. -/
namespace Go.Proofs.YtlllbkjiadcloaaDoor.hb
open Go Go.RowKit Go.Hb

theorem call50 : callable Tryd.prog 50 = true := by kernel_rfl
theorem call51 : callable Tryd.prog 51 = true := by kernel_rfl
theorem call84 : callable Tryd.prog 84 = true := by kernel_rfl
theorem call85 : callable Tryd.prog 85 = true := by kernel_rfl
theorem call15 : callable Tryd.prog 15 = true := by kernel_rfl
theorem call16 : callable Tryd.prog 16 = true := by kernel_rfl

mutual
/-- what is wrong with the first node that is -/
def allE (E : Tm → Int) : Tm → Int
  | .mk k s u b v l => if E (.mk k s u b v l) = 0 then allL E l else E (.mk k s u b v l)
def allL (E : Tm → Int) : List Tm → Int
  | [] => 0
  | t :: l => if allE E t = 0 then allL E l else allE E t
end
theorem allE_eq (E : Tm → Int) (t : Tm) : allE E t = if E t = 0 then allL E t.args else E t := by
  obtain ⟨k, s, u, b, v, l⟩ := t
  rw [allE]; rfl
theorem allL_drop {E : Tm → Int} {l : List Tm} {i : Nat} {t : Tm} (h : l[i]? = some t) : allL E (l.drop i) = if allE E t = 0 then allL E (l.drop (i + 1)) else allE E t := by
  have hlt := (List.getElem?_eq_some_iff.1 h).1
  have he : l[i] = t := (List.getElem?_eq_some_iff.1 h).2
  rw [List.drop_eq_getElem_cons hlt, allL, he]
def checkE (E : Tm → Int) (t : Tm) : Int := if 4000 < cnt t 0 then 24 else allE E t

/-- a call that tells a number of a term, and leaves all as it is -/
def TellsT (ok : Ok) (f : FuncId) (E : Tm → Int) : Prop := ∀ (t : Tm) (cs : List Value) (H : Heap), RepT H t cs → H.wf → EvF Tryd.prog ok f [.agg ⟨cs⟩] H fun v H' => v = .int .i64 (E t) ∧ HX H H'

theorem bne_of {n : Int} (h : n ≠ 0) : (n != 0) = true := by simp [h]
theorem bne_no {n : Int} (h : n = 0) : (n != 0) = false := by simp [h]

variable {ok : Ok}
set_option maxRecDepth 10000 in
set_option maxHeartbeats 2000000 in
theorem nodes_all_ev {E : Tm → Int} (hE : TellsT ok 84 E) (hk : ∀ args H, ok.K 50 args H = none) (hm : ok.testBit 50 = true) : TellsT ok 50 (allE E) := by
  have main : ∀ (m : Nat) {t : Tm} {cs : List Value} {H : Heap}, SizeOf.sizeOf t < m → RepT H t cs → H.wf → EvF Tryd.prog ok 50 [.agg ⟨cs⟩] H fun v H' => v = .int .i64 (allE E t) ∧ HX H H' := by
    intro m
    induction m with
    | zero => intro t cs H h; omega
    | succ m ih =>
    intro t cs H hsz r hw
    have rr := r
    obtain ⟨a, c, cells, rfl, b1, b2, b3, b4, b5, rl⟩ := r.inv
    have hx := (HX.refl hw).new (some (Blk.row [Value.int IntKind.i64 t.kind, Value.string t.name, Value.string t.num, Value.int IntKind.u64 t.bits, Value.int IntKind.i64 t.var, Value.slice a t.args.length c] 26))
    refine EvF.enter (hk _ _) Tryd.func50 hm rfl ?_
    (repeat refine EvC.seq ?_); refine EvC.reg ?_; simp (config := { maxSteps := 2000000 }) (disch := first | omega | rfl) only [initTm, EL_cons, EL_nil, LX_val, dop_box, dBox, dop_assign, ev_const, ev_tmp, Tr.get_put, put_some, Option.getD_some, Value.cells, List.all_cons, List.all_nil, one, Bool.and_self, if_true, thenC_normal]
    (repeat refine EvC.seq ?_); refine EvC.reg ?_; simp (config := { maxSteps := 2000000 }) (disch := first | omega | rfl) only [EL_cons, EL_nil, LX_val, LX_call, dop_assign, dop_load, ev_tmp, Tr.get_put, put_some, Nat.reduceEqDiff, Option.getD_some, Nat.reduceAdd, Nat.zero_add, reduceCtorEq, if_true, if_false, load_new, cutC, dloadA_some, List.drop_zero, List.take_succ_cons, List.take_zero, List.length_cons, List.length_nil, Nat.beq_refl, List.map_cons, List.map_nil, thenC_normal, dLoad_agg agg26, cells26, dop_call call84]
    refine (hE t _ _ (rr.mono hx hw) hx.wf).mono ?_
    rintro v H2 ⟨rfl, hx2⟩
    have hxx := hx.trans hx2
    have hb2 : H2.get H.next = some (Blk.row [Value.int IntKind.i64 t.kind, Value.string t.name, Value.string t.num, Value.int IntKind.u64 t.bits, Value.int IntKind.i64 t.var, Value.slice a t.args.length c] 26) := by rw [hx2.keep _ (Nat.lt_succ_self _), Heap.get_new, if_pos rfl]
    have l5 : H2.load ⟨H.next, 5, none⟩ 1 = some [.slice a t.args.length c] := by simp only [Heap.load, Heap.cells, hb2]; rfl
    try simp (config := { maxSteps := 2000000 }) (disch := first | omega | rfl) only []
    by_cases he : E t = 0
    · (repeat refine EvC.seq ?_); refine EvC.reg ?_; simp (config := { maxSteps := 2000000 }) (disch := first | omega | rfl) only [EL_cons, EL_nil, LX_val, dop_move, dop_bin, ev_const, ev_tmp, Tr.get_put, put_some, Nat.reduceEqDiff, Option.getD_some, reduceCtorEq, if_true, if_false, thenC_normal, dBin_neq, bne_no he]
      refine EvC.condF (by simp only [ev_tmp, Tr.get_put, Nat.reduceEqDiff, Option.getD_some, reduceCtorEq, if_true, if_false]) (EvC.skip ?_)
      try simp (config := { maxSteps := 2000000 }) (disch := first | omega | rfl) only [thenC_normal]
      (repeat refine EvC.seq ?_); refine EvC.reg ?_; simp (config := { maxSteps := 2000000 }) (disch := first | omega | rfl) only [EL_cons, EL_nil, LX_val, dop_move, dop_load, dop_fieldAddr, ev_const, ev_tmp, Tr.get_put, put_some, Nat.reduceEqDiff, Option.getD_some, Nat.zero_add, reduceCtorEq, if_true, if_false, dload1_some, thenC_normal, dop_len, dFieldAddr_at fld26_5 one24, dLoad_one agg24, l5, dLn_slice Tryd.underlying24]
      (repeat refine EvC.seq ?_); refine EvC.block (EvC.loop (fun k st => ∃ tm H' i, st = ⟨tm, [], H'⟩ ∧ k = t.args.length - i ∧ i ≤ t.args.length ∧ allL E (t.args.drop i) = allE E t ∧
        tm.get 13 = some (.slice a t.args.length c) ∧ tm.get 14 = some (.int .i64 t.args.length) ∧ tm.get 15 = some (.int .i64 (i : Nat)) ∧ HX H H') ?_ t.args.length _ ?_)
      · rintro k st ⟨tm, H', i, rfl, hk', hi, hc, g13, g14, g15, hx'⟩
        (repeat refine EvC.seq ?_); refine EvC.reg ?_; simp (config := { maxSteps := 2000000 }) (disch := first | omega | rfl) only [EL_cons, EL_nil, LX_val, dop_bin, dBin_lss, ev_tmp, put_some, Option.getD_some, thenC_normal, g14, g15]
        by_cases hlt : i < t.args.length
        · (repeat refine EvC.seq ?_); refine EvC.condT (by simp only [ev_tmp, Tr.get_put, Option.getD_some, if_true]; exact congrArg _ (decide_eq_true (by omega))) (EvC.skip ?_)
          obtain ⟨b, o, rfl, hload, hrep⟩ := rl.at (i := i) (List.getElem?_eq_getElem hlt)
          obtain ⟨a', c', cells', hcell, -⟩ := hrep.inv
          have hld := hx'.load hw hload
          rw [hcell] at hld hrep
          try simp (config := { maxSteps := 2000000 }) (disch := first | omega | rfl) only [thenC_normal]
          (repeat refine EvC.seq ?_); refine EvC.block ?_
          (repeat refine EvC.seq ?_); refine EvC.reg ?_; simp (config := { maxSteps := 2000000 }) (disch := first | omega | rfl) only [EL_cons, EL_nil, LX_val, dop_load, dop_store, dop_indexAddr, dop_alloc, dAlloc, ev_tmp, Tr.get_put, put_some, put_none, Nat.reduceEqDiff, Option.getD_some, Nat.reduceAdd, Nat.zero_add, List.all_cons, List.all_nil, one, Bool.and_self, if_true, if_false, get_new, dloadA_some, List.drop_succ_cons, List.length_cons, List.length_nil, Nat.beq_refl, dStoreIf_true, dStoreB_row, splice_zero, List.append_nil, Nat.le_refl, and_self, List.drop_nil, thenC_normal, g13, g15, dIndexAddr_slice Tryd.underlying24 info26 hlt, dLoad_agg agg26, cells26, hld, zero26, dStore_agg info26]
          (repeat refine EvC.seq ?_); refine EvC.reg ?_; simp (config := { maxSteps := 2000000 }) (disch := first | omega | rfl) only [EL_cons, EL_nil, LX_val, LX_call, dop_assign, dop_load, ev_tmp, Tr.get_put, put_some, Nat.reduceEqDiff, Option.getD_some, Nat.reduceAdd, Nat.zero_add, if_true, if_false, load_new, load_put, cutC, dloadA_some, List.drop_zero, List.take_succ_cons, List.take_zero, List.length_cons, List.length_nil, Nat.beq_refl, List.map_cons, List.map_nil, thenC_normal, dLoad_agg agg26, cells26, dop_call call50]
          have hx3 := (hx'.new (some (Blk.row [Value.int IntKind.i64 0, Value.string ByteArray.empty, Value.string ByteArray.empty, Value.int IntKind.u64 0, Value.int IntKind.i64 0, Value.slice none 0 0] 26))).put (i := H'.next) hx'.next (Nat.lt_succ_self _)
            (some (.row [Value.int IntKind.i64 t.args[i].kind, Value.string t.args[i].name, Value.string t.args[i].num, Value.int IntKind.u64 t.args[i].bits, Value.int IntKind.i64 t.args[i].var, Value.slice a' t.args[i].args.length c'] 26))
          have ht : t.args[i]? = some t.args[i] := List.getElem?_eq_getElem hlt
          have hs := args_size ht
          refine (ih (t := t.args[i]) (by omega) (hrep.mono hx3 hw) hx3.wf).mono ?_
          rintro v H4 ⟨rfl, hx4⟩
          have hL : t.args.length ≤ 9223372036854775807 := Nat.le_trans rl.len rl.cap
          have hd := allL_drop (E := E) ht
          try simp (config := { maxSteps := 2000000 }) (disch := first | omega | rfl) only []
          by_cases hz : allE E t.args[i] = 0
          · (repeat refine EvC.seq ?_); refine EvC.reg ?_; simp (config := { maxSteps := 2000000 }) (disch := first | omega | rfl) only [EL_cons, EL_nil, LX_val, dop_move, dop_bin, ev_const, ev_tmp, Tr.get_put, put_some, Nat.reduceEqDiff, Option.getD_some, if_true, if_false, thenC_normal, dBin_neq, bne_no hz]
            refine EvC.condF (by simp only [ev_tmp, Tr.get_put, Nat.reduceEqDiff, Option.getD_some, if_true, if_false]) (EvC.skip ?_)
            try simp (config := { maxSteps := 2000000 }) (disch := first | omega | rfl) only [thenC_normal, inBlock_normal]
            (repeat refine EvC.seq ?_); refine EvC.reg ?_; simp (config := { maxSteps := 2000000 }) (disch := first | omega | rfl) only [EL_cons, EL_nil, LX_val, dop_move, dop_bin, dBin_add, ev_const, ev_tmp, Tr.get_put, put_some, Nat.reduceEqDiff, Option.getD_some, if_true, if_false, thenC_normal, g15, wrap_i64]
            exact ⟨t.args.length - (i + 1), by omega, _, _, i + 1, rfl, rfl, by omega, by rw [← hc, hd, if_pos hz], by simp only [Tr.get_put, Nat.reduceEqDiff, if_false]; exact g13, by simp only [Tr.get_put, Nat.reduceEqDiff, if_false]; exact g14, by simp only [Tr.get_put, Nat.reduceEqDiff, if_true, if_false]; rfl, hx3.trans hx4⟩
          · (repeat refine EvC.seq ?_); refine EvC.reg ?_; simp (config := { maxSteps := 2000000 }) (disch := first | omega | rfl) only [EL_cons, EL_nil, LX_val, dop_move, dop_bin, ev_const, ev_tmp, Tr.get_put, put_some, Nat.reduceEqDiff, Option.getD_some, if_true, if_false, thenC_normal, dBin_neq, bne_of hz]
            refine EvC.condT (by simp only [ev_tmp, Tr.get_put, Nat.reduceEqDiff, Option.getD_some, if_true, if_false]) ?_
            (repeat refine EvC.seq ?_); refine EvC.reg ?_; simp (config := { maxSteps := 2000000 }) (disch := first | omega | rfl) only [EL_cons, EL_nil, LX_val, dop_assign, dop_move, ev_tmp, Tr.get_put, put_some, Nat.reduceEqDiff, Option.getD_some, if_true, if_false, thenC_normal]
            refine EvC.ret ?_
            try simp (config := { maxSteps := 2000000 }) (disch := first | omega | rfl) only [thenC_ret, inBlock_ret]
            exact leave_one rfl (by simp only [Tr.get_put, Nat.reduceEqDiff, if_true, if_false]; rfl) ⟨by rw [← hc, hd, if_neg hz], hx3.trans hx4⟩
        · (repeat refine EvC.seq ?_); refine EvC.condF (by simp only [ev_tmp, Tr.get_put, Option.getD_some, if_true]; exact congrArg _ (decide_eq_false (by omega))) (EvC.exit ?_)
          try simp (config := { maxSteps := 2000000 }) (disch := first | omega | rfl) only [if_true, thenC_normal, inBlock_exit, thenC_exit]
          (repeat refine EvC.seq ?_); refine EvC.reg ?_; simp (config := { maxSteps := 2000000 }) (disch := first | omega | rfl) only [EL_cons, EL_nil, LX_val, dop_assign, ev_const, put_some, thenC_normal]
          refine EvC.ret (leave_one rfl (by simp only [Tr.get_put, Nat.reduceEqDiff, if_true, if_false]; rfl) ⟨?_, hx'⟩)
          rw [← hc, List.drop_of_length_le (by omega), allL]
      · exact ⟨_, _, 0, rfl, rfl, by omega, by rw [allE_eq, if_pos he]; rfl, by simp only [Tr.get_put, Nat.reduceEqDiff, reduceCtorEq, if_true, if_false], by simp only [Tr.get_put, Nat.reduceEqDiff, reduceCtorEq, if_true, if_false], by simp only [Tr.get_put, Nat.reduceEqDiff, reduceCtorEq, if_true, if_false]; rfl, hxx⟩
    · (repeat refine EvC.seq ?_); refine EvC.reg ?_; simp (config := { maxSteps := 2000000 }) (disch := first | omega | rfl) only [EL_cons, EL_nil, LX_val, dop_move, dop_bin, ev_const, ev_tmp, Tr.get_put, put_some, Nat.reduceEqDiff, Option.getD_some, reduceCtorEq, if_true, if_false, thenC_normal, dBin_neq, bne_of he]
      refine EvC.condT (by simp only [ev_tmp, Tr.get_put, Nat.reduceEqDiff, Option.getD_some, reduceCtorEq, if_true, if_false]) ?_
      (repeat refine EvC.seq ?_); refine EvC.reg ?_; simp (config := { maxSteps := 2000000 }) (disch := first | omega | rfl) only [EL_cons, EL_nil, LX_val, dop_assign, dop_move, ev_tmp, Tr.get_put, put_some, Nat.reduceEqDiff, Option.getD_some, reduceCtorEq, if_true, if_false, thenC_normal]
      refine EvC.ret ?_
      try simp (config := { maxSteps := 2000000 }) (disch := first | omega | rfl) only [thenC_ret]
      exact leave_one rfl (by simp only [Tr.get_put, Nat.reduceEqDiff, reduceCtorEq, if_true, if_false]; rfl) ⟨by rw [allE_eq, if_neg he], hxx⟩
  exact fun t cs H r hw => main _ (Nat.lt_succ_self _) r hw
end Go.Proofs.YtlllbkjiadcloaaDoor.hb
end

-- W7
section
/- All nodes of a term, the reference; both 'Check'. -/
namespace Go.Proofs.YtlllbkjiadcloaaDoor.hb
open Go Go.RowKit Go.Hb

theorem beq_of {n : Int} (h : n = 0) : (n == 0) = true := by simp [h]
theorem beq_no {n : Int} (h : n ≠ 0) : (n == 0) = false := by simp [h]

variable {ok : Ok}
set_option maxRecDepth 10000 in
set_option maxHeartbeats 2000000 in
theorem ref_all_ev {E : Tm → Int} (hE : TellsT ok 85 E) (hk : ∀ args H, ok.K 51 args H = none) (hm : ok.testBit 51 = true) : TellsT ok 51 (allE E) := by
  have main : ∀ (m : Nat) {t : Tm} {cs : List Value} {H : Heap}, SizeOf.sizeOf t < m → RepT H t cs → H.wf → EvF Tryd.prog ok 51 [.agg ⟨cs⟩] H fun v H' => v = .int .i64 (allE E t) ∧ HX H H' := by
    intro m
    induction m with
    | zero => intro t cs H h; omega
    | succ m ih =>
    intro t cs H hsz r hw
    have rr := r
    obtain ⟨a, c, cells, rfl, b1, b2, b3, b4, b5, rl⟩ := r.inv
    have hx := (HX.refl hw).new (some (Blk.row [Value.int IntKind.i64 t.kind, Value.string t.name, Value.string t.num, Value.int IntKind.u64 t.bits, Value.int IntKind.i64 t.var, Value.slice a t.args.length c] 26))
    refine EvF.enter (hk _ _) Tryd.func51 hm rfl ?_
    (repeat refine EvC.seq ?_); refine EvC.reg ?_; simp (config := { maxSteps := 2000000 }) (disch := first | omega | rfl) only [initTm, EL_cons, EL_nil, LX_val, dop_box, dBox, dop_assign, ev_const, ev_tmp, Tr.get_put, put_some, Option.getD_some, Value.cells, List.all_cons, List.all_nil, one, Bool.and_self, if_true, thenC_normal]
    (repeat refine EvC.seq ?_); refine EvC.reg ?_; simp (config := { maxSteps := 2000000 }) (disch := first | omega | rfl) only [EL_cons, EL_nil, LX_val, LX_call, dop_assign, dop_load, ev_tmp, Tr.get_put, put_some, Nat.reduceEqDiff, Option.getD_some, Nat.reduceAdd, Nat.zero_add, reduceCtorEq, if_true, if_false, load_new, cutC, dloadA_some, List.drop_zero, List.take_succ_cons, List.take_zero, List.length_cons, List.length_nil, Nat.beq_refl, List.map_cons, List.map_nil, thenC_normal, dLoad_agg agg26, cells26, dop_call call85]
    refine (hE t _ _ (rr.mono hx hw) hx.wf).mono ?_
    rintro v H2 ⟨rfl, hx2⟩
    have hxx := hx.trans hx2
    have hb2 : H2.get H.next = some (Blk.row [Value.int IntKind.i64 t.kind, Value.string t.name, Value.string t.num, Value.int IntKind.u64 t.bits, Value.int IntKind.i64 t.var, Value.slice a t.args.length c] 26) := by rw [hx2.keep _ (Nat.lt_succ_self _), Heap.get_new, if_pos rfl]
    try simp (config := { maxSteps := 2000000 }) (disch := first | omega | rfl) only []
    (repeat refine EvC.seq ?_); refine EvC.reg ?_; simp (config := { maxSteps := 2000000 }) (disch := first | omega | rfl) only [EL_cons, EL_nil, LX_val, dop_assign, ev_const, put_some, thenC_normal]
    have hlt2 : H.next < H2.next := Nat.lt_of_lt_of_le (Nat.lt_succ_self _) hx2.next
    -- e: what is known so far; where it is nought, what the rest tells
    (repeat refine EvC.seq ?_); refine EvC.block (EvC.loop (fun k st => ∃ tm H' i e, st = ⟨tm, [], H'⟩ ∧ k = t.args.length - i ∧ i ≤ t.args.length ∧ (if e = 0 then allL E (t.args.drop i) else e) = allE E t ∧
        tm.get 1 = some (.pointer (some ⟨H.next, 0, none⟩)) ∧ tm.get 3 = some (.int .i64 e) ∧ tm.get 4 = some (.int .i64 (i : Nat)) ∧ H'.get H.next = some (Blk.row [Value.int IntKind.i64 t.kind, Value.string t.name, Value.string t.num, Value.int IntKind.u64 t.bits, Value.int IntKind.i64 t.var, Value.slice a t.args.length c] 26) ∧ H.next < H'.next ∧ HX H H') ?_ t.args.length _ ?_)
    · rintro k st ⟨tm, H', i, e, rfl, hk', hi, hc, g1, g3, g4, hb, hlt0, hx'⟩
      have l5 : H'.load ⟨H.next, 5, none⟩ 1 = some [.slice a t.args.length c] := by simp only [Heap.load, Heap.cells, hb]; rfl
      by_cases hlt : i < t.args.length
      · have hd1 : decide ((i : Int) < (t.args.length : Int)) = true := decide_eq_true (by omega)
        by_cases he : e = 0
        · (repeat refine EvC.seq ?_); refine EvC.reg ?_; simp (config := { maxSteps := 2000000 }) (disch := first | omega | rfl) only [EL_cons, EL_nil, EL_guard, LX_val, LG_tt, dop_move, dop_pick, dPick_bool, dop_load, dop_fieldAddr, dop_bin, dBin_lss, ev_const, ev_tmp, Tr.get_put, put_some, Nat.reduceEqDiff, Option.getD_some, Nat.zero_add, if_true, if_false, dload1_some, thenC_normal, guardOf_eq, guardGet_some, List.getElem?_cons_succ, List.getElem?_cons_zero, dBin_eql, dop_len, g1, g3, g4, dFieldAddr_at fld26_5 one24, dLoad_one agg24, l5, dLn_slice Tryd.underlying24, hd1, beq_of he]
          (repeat refine EvC.seq ?_); refine EvC.condT (by simp only [ev_tmp, Tr.get_put, Nat.reduceEqDiff, Option.getD_some, if_true, if_false]) (EvC.skip ?_)
          obtain ⟨b, o, rfl, hload, hrep⟩ := rl.at (i := i) (List.getElem?_eq_getElem hlt)
          obtain ⟨a', c', cells', hcell, -⟩ := hrep.inv
          have hld := hx'.load hw hload
          rw [hcell] at hld hrep
          try simp (config := { maxSteps := 2000000 }) (disch := first | omega | rfl) only [thenC_normal]
          (repeat refine EvC.seq ?_); refine EvC.block ?_
          (repeat refine EvC.seq ?_); refine EvC.reg ?_; simp (config := { maxSteps := 2000000 }) (disch := first | omega | rfl) only [EL_cons, EL_nil, LX_val, LX_call, dop_assign, dop_move, dop_load, dop_fieldAddr, dop_indexAddr, ev_tmp, Tr.get_put, put_some, Nat.reduceEqDiff, Option.getD_some, Nat.zero_add, if_true, if_false, dloadA_some, dload1_some, List.map_cons, List.map_nil, thenC_normal, inBlock_normal, g1, g4, dFieldAddr_at fld26_5 one24, dLoad_one agg24, l5, dIndexAddr_slice Tryd.underlying24 info26 hlt, dLoad_agg agg26, cells26, hld, dop_call call51]
          have ht : t.args[i]? = some t.args[i] := List.getElem?_eq_getElem hlt
          have hs := args_size ht
          refine (ih (t := t.args[i]) (by omega) (hrep.mono hx' hw) hx'.wf).mono ?_
          rintro v H4 ⟨rfl, hx4⟩
          have hL : t.args.length ≤ 9223372036854775807 := Nat.le_trans rl.len rl.cap
          try simp (config := { maxSteps := 2000000 }) (disch := first | omega | rfl) only []
          (repeat refine EvC.seq ?_); refine EvC.reg ?_; simp (config := { maxSteps := 2000000 }) (disch := first | omega | rfl) only [EL_cons, EL_nil, LX_val, dop_assign, dop_move, dop_bin, dBin_add, ev_const, ev_tmp, Tr.get_put, put_some, Nat.reduceEqDiff, Option.getD_some, if_true, if_false, thenC_normal, g4, wrap_i64]
          exact ⟨t.args.length - (i + 1), by omega, _, _, i + 1, allE E t.args[i], rfl, rfl, by omega, by rw [← hc, if_pos he, allL_drop (E := E) ht], by simp only [Tr.get_put, Nat.reduceEqDiff, if_false]; exact g1, by simp only [Tr.get_put, Nat.reduceEqDiff, if_true, if_false], by simp only [Tr.get_put, Nat.reduceEqDiff, if_true, if_false]; rfl, by rw [hx4.keep _ hlt0]; exact hb, Nat.lt_of_lt_of_le hlt0 hx4.next, hx'.trans hx4⟩
        · (repeat refine EvC.seq ?_); refine EvC.reg ?_; simp (config := { maxSteps := 2000000 }) (disch := first | omega | rfl) only [EL_cons, EL_nil, EL_guard, LX_val, LG_tt, dop_move, dop_pick, dPick_bool, dop_load, dop_fieldAddr, dop_bin, dBin_lss, ev_const, ev_tmp, Tr.get_put, put_some, Nat.reduceEqDiff, Option.getD_some, Nat.zero_add, if_true, if_false, dload1_some, thenC_normal, guardOf_eq, guardGet_some, List.getElem?_cons_succ, List.getElem?_cons_zero, dBin_eql, dop_len, g1, g3, g4, dFieldAddr_at fld26_5 one24, dLoad_one agg24, l5, dLn_slice Tryd.underlying24, hd1, beq_no he]
          (repeat refine EvC.seq ?_); refine EvC.condF (by simp only [ev_tmp, Tr.get_put, Nat.reduceEqDiff, Option.getD_some, if_true, if_false]) (EvC.exit ?_)
          try simp (config := { maxSteps := 2000000 }) (disch := first | omega | rfl) only [if_true, thenC_normal, inBlock_exit, thenC_exit]
          (repeat refine EvC.seq ?_); refine EvC.reg ?_; simp (config := { maxSteps := 2000000 }) (disch := first | omega | rfl) only [EL_cons, EL_nil, LX_val, dop_assign, dop_move, ev_tmp, Tr.get_put, put_some, Nat.reduceEqDiff, Option.getD_some, if_true, if_false, thenC_normal, g3]
          refine EvC.ret (leave_one rfl (by simp only [Tr.get_put, Nat.reduceEqDiff, if_true, if_false]; rfl) ⟨by rw [← hc, if_neg he], hx'⟩)
      · have hd1 : decide ((i : Int) < (t.args.length : Int)) = false := decide_eq_false (by omega)
        (repeat refine EvC.seq ?_); refine EvC.reg ?_; simp (config := { maxSteps := 2000000 }) (disch := first | omega | rfl) only [EL_cons, EL_nil, EL_guard, LX_val, LG_tf, dop_move, dop_pick, dPick_bool, dop_load, dop_fieldAddr, dop_bin, dBin_lss, ev_const, ev_tmp, Tr.get_put, put_some, Nat.reduceEqDiff, Option.getD_some, Nat.zero_add, if_true, if_false, dload1_some, thenC_normal, guardOf_eq, guardGet_some, List.getElem?_cons_succ, List.getElem?_cons_zero, dop_len, g1, g4, dFieldAddr_at fld26_5 one24, dLoad_one agg24, l5, dLn_slice Tryd.underlying24, hd1, Bool.false_eq_true]
        (repeat refine EvC.seq ?_); refine EvC.condF (by simp only [ev_tmp, Tr.get_put, Nat.reduceEqDiff, Option.getD_some, if_true, if_false]) (EvC.exit ?_)
        try simp (config := { maxSteps := 2000000 }) (disch := first | omega | rfl) only [if_true, thenC_normal, inBlock_exit, thenC_exit]
        (repeat refine EvC.seq ?_); refine EvC.reg ?_; simp (config := { maxSteps := 2000000 }) (disch := first | omega | rfl) only [EL_cons, EL_nil, LX_val, dop_assign, dop_move, ev_tmp, Tr.get_put, put_some, Nat.reduceEqDiff, Option.getD_some, if_true, if_false, thenC_normal, g3]
        refine EvC.ret (leave_one rfl (by simp only [Tr.get_put, Nat.reduceEqDiff, if_true, if_false]; rfl) ⟨?_, hx'⟩)
        rw [← hc, List.drop_of_length_le (by omega), allL]
        split
        · rename_i h; rw [h]
        · rfl
    · exact ⟨_, _, 0, E t, rfl, rfl, by omega, by rw [allE_eq]; rfl, by simp only [Tr.get_put, Nat.reduceEqDiff, reduceCtorEq, if_true, if_false], by simp only [Tr.get_put, Nat.reduceEqDiff, reduceCtorEq, if_true, if_false], by simp only [Tr.get_put, Nat.reduceEqDiff, reduceCtorEq, if_true, if_false]; rfl, hb2, hlt2, hxx⟩
  exact fun t cs H r hw => main _ (Nat.lt_succ_self _) r hw

set_option maxRecDepth 10000 in
theorem check_ev {E : Tm → Int} (hN : TellsT ok 13 fun t => cnt t 0) (hE : TellsT ok 50 (allE E)) (hk : ∀ args H, ok.K 15 args H = none) (hm : ok.testBit 15 = true) : TellsT ok 15 (checkE E) := by
  intro t cs H r hw
  have rr := r
  obtain ⟨a, c, cells, rfl, b1, b2, b3, b4, b5, rl⟩ := r.inv
  have hx := (HX.refl hw).new (some (Blk.row [Value.int IntKind.i64 t.kind, Value.string t.name, Value.string t.num, Value.int IntKind.u64 t.bits, Value.int IntKind.i64 t.var, Value.slice a t.args.length c] 26))
  refine EvF.enter (hk _ _) Tryd.func15 hm rfl ?_
  (repeat refine EvC.seq ?_); refine EvC.reg ?_; simp (config := { maxSteps := 2000000 }) (disch := first | omega | rfl) only [initTm, EL_cons, EL_nil, LX_val, dop_box, dBox, dop_assign, ev_const, ev_tmp, Tr.get_put, put_some, Option.getD_some, Value.cells, List.all_cons, List.all_nil, one, Bool.and_self, if_true, thenC_normal]
  (repeat refine EvC.seq ?_); refine EvC.reg ?_; simp (config := { maxSteps := 2000000 }) (disch := first | omega | rfl) only [EL_cons, LX_val, LX_call, dop_load, dop_bin, ev_const, ev_tmp, Tr.get_put, put_some, Nat.reduceEqDiff, Option.getD_some, Nat.reduceAdd, Nat.zero_add, reduceCtorEq, if_true, if_false, load_new, cutC, dloadA_some, List.drop_zero, List.take_succ_cons, List.take_zero, List.length_cons, List.length_nil, Nat.beq_refl, List.map_cons, List.map_nil, thenC_normal, dLoad_agg agg26, cells26, dop_call call13]
  refine (hN t _ _ (rr.mono hx hw) hx.wf).mono ?_
  rintro v H2 ⟨rfl, hx2⟩
  have hxx := hx.trans hx2
  have hb2 : H2.get H.next = some (Blk.row [Value.int IntKind.i64 t.kind, Value.string t.name, Value.string t.num, Value.int IntKind.u64 t.bits, Value.int IntKind.i64 t.var, Value.slice a t.args.length c] 26) := by rw [hx2.keep _ (Nat.lt_succ_self _), Heap.get_new, if_pos rfl]
  have l6 : H2.load ⟨H.next, 0, none⟩ 6 = some [Value.int IntKind.i64 t.kind, Value.string t.name, Value.string t.num, Value.int IntKind.u64 t.bits, Value.int IntKind.i64 t.var, Value.slice a t.args.length c] := by simp only [Heap.load, Heap.cells, hb2]; rfl
  by_cases hov : 4000 < cnt t 0
  · (repeat refine EvC.seq ?_); refine EvC.condT (by simp only [ev_tmp, Tr.get_put, put_some, Nat.reduceEqDiff, Option.getD_some, reduceCtorEq, if_true, if_false]; exact congrArg _ (decide_eq_true (by omega))) ?_
    (repeat refine EvC.seq ?_); refine EvC.reg ?_; simp (config := { maxSteps := 2000000 }) (disch := first | omega | rfl) only [EL_cons, EL_nil, LX_val, dop_assign, ev_const, put_some, thenC_normal]
    refine EvC.ret ?_
    try simp (config := { maxSteps := 2000000 }) (disch := first | omega | rfl) only [thenC_ret]
    exact leave_one rfl (by simp only [Tr.get_put, Nat.reduceEqDiff, reduceCtorEq, if_true, if_false]; rfl) ⟨by rw [checkE, if_pos hov], hxx⟩
  · (repeat refine EvC.seq ?_); refine EvC.condF (by simp only [ev_tmp, Tr.get_put, put_some, Nat.reduceEqDiff, Option.getD_some, reduceCtorEq, if_true, if_false]; exact congrArg _ (decide_eq_false (by omega))) (EvC.skip ?_)
    try simp (config := { maxSteps := 2000000 }) (disch := first | omega | rfl) only [put_some, thenC_normal]
    (repeat refine EvC.seq ?_); refine EvC.reg ?_; simp (config := { maxSteps := 2000000 }) (disch := first | omega | rfl) only [EL_cons, EL_nil, LX_val, LX_call, dop_assign, dop_load, ev_tmp, Tr.get_put, put_some, Nat.reduceEqDiff, Option.getD_some, reduceCtorEq, if_true, if_false, dloadA_some, List.map_cons, List.map_nil, thenC_normal, dLoad_agg agg26, cells26, l6, dop_call call50]
    refine (hE t _ _ (rr.mono hxx hw) hx2.wf).mono ?_
    rintro v H3 ⟨rfl, hx3⟩
    try simp (config := { maxSteps := 2000000 }) (disch := first | omega | rfl) only []
    refine EvC.ret ?_
    try simp (config := { maxSteps := 2000000 }) (disch := first | omega | rfl) only []
    exact leave_one rfl (by simp only [Tr.get_put, Nat.reduceEqDiff, reduceCtorEq, if_true, if_false]; rfl) ⟨by rw [checkE, if_neg hov], hxx.trans hx3⟩

set_option maxRecDepth 10000 in
theorem ref_check_ev {E : Tm → Int} (hN : TellsT ok 14 fun t => cnt t 0) (hE : TellsT ok 51 (allE E)) (hk : ∀ args H, ok.K 16 args H = none) (hm : ok.testBit 16 = true) : TellsT ok 16 (checkE E) := by
  intro t cs H r hw
  have rr := r
  obtain ⟨a, c, cells, rfl, b1, b2, b3, b4, b5, rl⟩ := r.inv
  have hx := (HX.refl hw).new (some (Blk.row [Value.int IntKind.i64 t.kind, Value.string t.name, Value.string t.num, Value.int IntKind.u64 t.bits, Value.int IntKind.i64 t.var, Value.slice a t.args.length c] 26))
  refine EvF.enter (hk _ _) Tryd.func16 hm rfl ?_
  (repeat refine EvC.seq ?_); refine EvC.reg ?_; simp (config := { maxSteps := 2000000 }) (disch := first | omega | rfl) only [initTm, EL_cons, EL_nil, LX_val, dop_box, dBox, dop_assign, ev_const, ev_tmp, Tr.get_put, put_some, Option.getD_some, Value.cells, List.all_cons, List.all_nil, one, Bool.and_self, if_true, thenC_normal]
  (repeat refine EvC.seq ?_); refine EvC.reg ?_; simp (config := { maxSteps := 2000000 }) (disch := first | omega | rfl) only [EL_cons, LX_val, LX_call, dop_load, dop_bin, ev_const, ev_tmp, Tr.get_put, put_some, Nat.reduceEqDiff, Option.getD_some, Nat.reduceAdd, Nat.zero_add, reduceCtorEq, if_true, if_false, load_new, cutC, dloadA_some, List.drop_zero, List.take_succ_cons, List.take_zero, List.length_cons, List.length_nil, Nat.beq_refl, List.map_cons, List.map_nil, thenC_normal, dLoad_agg agg26, cells26, dop_call call14]
  refine (hN t _ _ (rr.mono hx hw) hx.wf).mono ?_
  rintro v H2 ⟨rfl, hx2⟩
  have hxx := hx.trans hx2
  have hb2 : H2.get H.next = some (Blk.row [Value.int IntKind.i64 t.kind, Value.string t.name, Value.string t.num, Value.int IntKind.u64 t.bits, Value.int IntKind.i64 t.var, Value.slice a t.args.length c] 26) := by rw [hx2.keep _ (Nat.lt_succ_self _), Heap.get_new, if_pos rfl]
  have l6 : H2.load ⟨H.next, 0, none⟩ 6 = some [Value.int IntKind.i64 t.kind, Value.string t.name, Value.string t.num, Value.int IntKind.u64 t.bits, Value.int IntKind.i64 t.var, Value.slice a t.args.length c] := by simp only [Heap.load, Heap.cells, hb2]; rfl
  by_cases hov : 4000 < cnt t 0
  · (repeat refine EvC.seq ?_); refine EvC.condT (by simp only [ev_tmp, Tr.get_put, put_some, Nat.reduceEqDiff, Option.getD_some, reduceCtorEq, if_true, if_false]; exact congrArg _ (decide_eq_true (by omega))) ?_
    (repeat refine EvC.seq ?_); refine EvC.reg ?_; simp (config := { maxSteps := 2000000 }) (disch := first | omega | rfl) only [EL_cons, EL_nil, LX_val, dop_assign, ev_const, put_some, thenC_normal]
    refine EvC.ret ?_
    try simp (config := { maxSteps := 2000000 }) (disch := first | omega | rfl) only [thenC_ret]
    exact leave_one rfl (by simp only [Tr.get_put, Nat.reduceEqDiff, reduceCtorEq, if_true, if_false]; rfl) ⟨by rw [checkE, if_pos hov], hxx⟩
  · (repeat refine EvC.seq ?_); refine EvC.condF (by simp only [ev_tmp, Tr.get_put, put_some, Nat.reduceEqDiff, Option.getD_some, reduceCtorEq, if_true, if_false]; exact congrArg _ (decide_eq_false (by omega))) (EvC.skip ?_)
    try simp (config := { maxSteps := 2000000 }) (disch := first | omega | rfl) only [put_some, thenC_normal]
    (repeat refine EvC.seq ?_); refine EvC.reg ?_; simp (config := { maxSteps := 2000000 }) (disch := first | omega | rfl) only [EL_cons, EL_nil, LX_val, LX_call, dop_assign, dop_load, ev_tmp, Tr.get_put, put_some, Nat.reduceEqDiff, Option.getD_some, reduceCtorEq, if_true, if_false, dloadA_some, List.map_cons, List.map_nil, thenC_normal, dLoad_agg agg26, cells26, l6, dop_call call51]
    refine (hE t _ _ (rr.mono hxx hw) hx2.wf).mono ?_
    rintro v H3 ⟨rfl, hx3⟩
    try simp (config := { maxSteps := 2000000 }) (disch := first | omega | rfl) only []
    refine EvC.ret ?_
    try simp (config := { maxSteps := 2000000 }) (disch := first | omega | rfl) only []
    exact leave_one rfl (by simp only [Tr.get_put, Nat.reduceEqDiff, reduceCtorEq, if_true, if_false]; rfl) ⟨by rw [checkE, if_neg hov], hxx.trans hx3⟩
end Go.Proofs.YtlllbkjiadcloaaDoor.hb
end

-- W8
section
/- Floats: the program's tests and the reference's. -/
namespace Go.Proofs.YtlllbkjiadcloaaDoor.hb
open Go Go.RowKit Go.Hb

section
variable {P : Program} {H : Heap}
theorem dBin_neqF {t : TypeId} {x y : Operand} {k : FloatKind} {a b : Nat} : dBin P .neq t x y (.float k a) (.float k b) H = some (.val (.bool (k.format.order a b != some .eq)) H) := by
  simp [dBin, dnil, flat, eqGuard, binOp, Op.floatCmp, Sem.bind]; rfl
theorem dBin_gtrF {t : TypeId} {x y : Operand} {k : FloatKind} {a b : Nat} : dBin P .gtr t x y (.float k a) (.float k b) H = some (.val (.bool (k.format.order a b == some .gt)) H) := by
  simp [dBin, dnil, flat, eqGuard, binOp, Op.floatCmp, Sem.bind]; rfl
def iAndNot (k : IntKind) (a b : Int) : Int := k.wrap (BitVec.ofInt k.bits a &&& ~~~BitVec.ofInt k.bits b).toNat
def iAnd (k : IntKind) (a b : Int) : Int := k.wrap (BitVec.ofInt k.bits a &&& BitVec.ofInt k.bits b).toNat
theorem dBin_andNot {t : TypeId} {x y : Operand} {k : IntKind} {a b : Int} : dBin P .andNot t x y (.int k a) (.int k b) H = some (.val (.int k (iAndNot k a b)) H) := by
  simp [dBin, dnil, flat, eqGuard, binOp, Op.intBits, Sem.bind, -BitVec.toNat_and, -BitVec.toNat_not, -BitVec.toNat_ofInt]; rfl
theorem dBin_and {t : TypeId} {x y : Operand} {k : IntKind} {a b : Int} : dBin P .and t x y (.int k a) (.int k b) H = some (.val (.int k (iAnd k a b)) H) := by
  simp [dBin, dnil, flat, eqGuard, binOp, Op.intBits, Sem.bind]; rfl
theorem dBin_shr {t : TypeId} {x y : Operand} {k k' : IntKind} {a b : Int} (h : 0 ≤ b) : dBin P .shr t x y (.int k a) (.int k' b) H = some (.val (.int k (a.fdiv (2 ^ (min b.toNat k.bits)))) H) := by
  have hb : ¬ b < 0 := by omega
  simp [dBin, dnil, flat, eqGuard, binOp, Op.shift, hb, Sem.bind]; rfl
end

def rhoF (n : Nat) : Operand → Value
  | .func f => .func (.func f) #[] #[]
  | _ => .float .f64 n
theorem bits_run (n : Nat) (d : Option Tmp) (k : Tmp) (ats : Array TypeId) (ty : TypeId) (pos : String) (af : Array Edge) (g : Option (Nat × Bool)) :
    pureRun Tryd.prog (execOp (rhoF n) ⟨d, .call ⟨.value (.func 143), #[.tmp k], ats⟩, ty, pos, af, g⟩) = some (.value (.int .u64 n)) := by kernel_rfl
theorem nocall143 (l : List Value) : dcall1 Tryd.prog 143 l = none := by
  unfold dcall1
  rw [Tryd.func143]
  rfl
theorem dop_bits {d : Option Tmp} {k : Tmp} {ats : Array TypeId} {ty : TypeId} {pos : String} {af : Array Edge} {g : Option (Nat × Bool)} {tm : Tr Value} {H : Heap} {n : Nat} (hv : tm.get k = some (.float .f64 n)) :
    dop Tryd.prog ⟨d, .call ⟨.value (.func 143), #[.tmp k], ats⟩, ty, pos, af, g⟩ (ev tm) H = some (.val (.int .u64 n) H) := by
  have hρ : ∀ y ∈ (⟨d, .call ⟨.value (.func 143), #[.tmp k], ats⟩, ty, pos, af, g⟩ : Oper).op.operands, ev tm y = rhoF n y := by
    intro y hy
    simp [Op.operands, Call.operands] at hy
    rcases hy with rfl | rfl
    · rfl
    · show (tm.get k).getD junk = _
      rw [hv]; rfl
  have e : dop Tryd.prog ⟨d, .call ⟨.value (.func 143), #[.tmp k], ats⟩, ty, pos, af, g⟩ (ev tm) H = dflat Tryd.prog ⟨d, .call ⟨.value (.func 143), #[.tmp k], ats⟩, ty, pos, af, g⟩ (ev tm) H := by
    simp only [dop, ev, nocall143]
  have hf : allFlat (ev tm) (⟨d, .call ⟨.value (.func 143), #[.tmp k], ats⟩, ty, pos, af, g⟩ : Oper) = true := by
    unfold allFlat
    rw [List.all_eq_true]
    intro y hy
    rw [hρ y (Array.mem_toList_iff.1 hy)]
    simp [Op.operands, Call.operands] at hy
    rcases hy with rfl | rfl <;> rfl
  rw [e]
  unfold dflat
  rw [hf, execOp_congr _ (by intro cs b h; cases h) hρ, bits_run]
  rfl

theorem call126 : callable Tryd.prog 126 = true := by kernel_rfl
def fnB (n : Int) : Bool := FloatKind.f64.format.order n.toNat n.toNat != some .eq
def absN (m : Nat) : Nat := (iAndNot .u64 m 9223372036854775808).toNat
def fiB (n : Int) : Bool := FloatKind.f64.format.order (absN n.toNat) 9218868437227405311 == some .gt

variable {ok : Ok}
set_option maxRecDepth 10000
theorem abs_ev (hk : ∀ args H, ok.K 126 args H = none) (hm : ok.testBit 126 = true) (m : Nat) (H : Heap) (hw : H.wf) : EvF Tryd.prog ok 126 [.float .f64 m] H fun v H' => v = .float .f64 (absN m) ∧ HX H H' := by
  refine EvF.enter (hk _ _) Tryd.func126 hm rfl ?_
  (repeat refine EvC.seq ?_); refine EvC.reg ?_; simp (config := { maxSteps := 2000000 }) (disch := first | omega | rfl) only [initTm, EL_cons, EL_nil, LX_val, dop_assign, ev_const, put_some, thenC_normal]
  (repeat refine EvC.seq ?_); refine EvC.reg ?_; simp (config := { maxSteps := 2000000 }) (disch := first | omega | rfl) only [EL_cons, LX_val, dop_move, ev_tmp, Tr.get_put, put_some, Option.getD_some, reduceCtorEq, if_true, if_false, thenC_normal]
  rw [dop_bits (n := m) (by simp only [Tr.get_put, Nat.reduceEqDiff, reduceCtorEq, if_true, if_false])]
  try simp (config := { maxSteps := 2000000 }) (disch := first | omega | rfl) only [EL_cons, LX_val, dop_bin, ev_const, ev_tmp, Tr.get_put, put_some, Nat.reduceEqDiff, Option.getD_some, reduceCtorEq, if_true, if_false, dBin_andNot]
  rw [dop_frombits (n := iAndNot .u64 m 9223372036854775808) (by simp only [Tr.get_put, Nat.reduceEqDiff, reduceCtorEq, if_true, if_false])]
  try simp (config := { maxSteps := 2000000 }) (disch := first | omega | rfl) only [EL_cons, EL_nil, LX_val, dop_assign, ev_tmp, Tr.get_put, put_some, Nat.reduceEqDiff, Option.getD_some, reduceCtorEq, if_true, if_false]
  refine EvC.ret ?_
  exact leave_one rfl (by simp only [Tr.get_put, Nat.reduceEqDiff, reduceCtorEq, if_true, if_false]; rfl) ⟨rfl, HX.refl hw⟩
theorem isnan_ev (hk : ∀ args H, ok.K 103 args H = none) (hm : ok.testBit 103 = true) (n : Int) (H : Heap) (hw : H.wf) : EvF Tryd.prog ok 103 [.float .f64 n.toNat] H fun v H' => v = .bool (fnB n) ∧ HX H H' := by
  refine EvF.enter (hk _ _) Tryd.func103 hm rfl ?_
  (repeat refine EvC.seq ?_); refine EvC.reg ?_; simp (config := { maxSteps := 2000000 }) (disch := first | omega | rfl) only [initTm, EL_cons, EL_nil, LX_val, dop_assign, ev_const, put_some, thenC_normal]
  (repeat refine EvC.seq ?_); refine EvC.reg ?_; simp (config := { maxSteps := 2000000 }) (disch := first | omega | rfl) only [EL_cons, EL_nil, LX_val, dop_assign, dop_move, dop_bin, ev_tmp, Tr.get_put, put_some, Nat.reduceEqDiff, Option.getD_some, reduceCtorEq, if_true, if_false, thenC_normal, dBin_neqF]
  refine EvC.ret ?_
  exact leave_one rfl (by simp only [Tr.get_put, Nat.reduceEqDiff, reduceCtorEq, if_true, if_false]; rfl) ⟨rfl, HX.refl hw⟩
theorem isinf_ev (hk : ∀ f args H, (f = 104 ∨ f = 126) → ok.K f args H = none) (hm : ok.testBit 104 = true) (hm2 : ok.testBit 126 = true) (n : Int) (H : Heap) (hw : H.wf) :
    EvF Tryd.prog ok 104 [.float .f64 n.toNat, .int .i64 0] H fun v H' => v = .bool (fiB n) ∧ HX H H' := by
  refine EvF.enter (hk _ _ _ (.inl rfl)) Tryd.func104 hm rfl ?_
  (repeat refine EvC.seq ?_); refine EvC.reg ?_; simp (config := { maxSteps := 2000000 }) (disch := first | omega | rfl) only [initTm, EL_cons, EL_nil, LX_val, dop_assign, ev_const, put_some, Nat.zero_add, thenC_normal]
  (repeat refine EvC.seq ?_); refine EvC.reg ?_; simp (config := { maxSteps := 2000000 }) (disch := first | omega | rfl) only [EL_cons, EL_nil, LX_val, dop_move, dop_bin, ev_const, ev_tmp, Tr.get_put, put_some, Nat.reduceEqDiff, Option.getD_some, reduceCtorEq, if_true, if_false, thenC_normal, dBin_eql]
  (repeat refine EvC.seq ?_); refine EvC.condT (by simp only [ev_tmp, Tr.get_put, Nat.reduceEqDiff, Option.getD_some, reduceCtorEq, if_true, if_false]; rfl) ?_
  (repeat refine EvC.seq ?_); refine EvC.reg ?_; simp (config := { maxSteps := 2000000 }) (disch := first | omega | rfl) only [EL_cons, EL_nil, LX_val, LX_call, dop_assign, dop_move, ev_tmp, Tr.get_put, put_some, Nat.reduceEqDiff, Option.getD_some, reduceCtorEq, if_true, if_false, List.map_cons, List.map_nil, thenC_normal, dop_call call126]
  refine (abs_ev (hk 126 · · (.inr rfl)) hm2 n.toNat H hw).mono ?_
  rintro v H2 ⟨rfl, hx⟩
  try simp (config := { maxSteps := 2000000 }) (disch := first | omega | rfl) only []
  (repeat refine EvC.seq ?_); refine EvC.reg ?_; simp (config := { maxSteps := 2000000 }) (disch := first | omega | rfl) only [EL_cons, EL_nil, LX_val, dop_assign, dop_move, dop_bin, ev_const, ev_tmp, Tr.get_put, put_some, Nat.reduceEqDiff, Option.getD_some, reduceCtorEq, if_true, if_false, thenC_normal, dBin_gtrF]
  refine EvC.ret ?_
  exact leave_one rfl (by simp only [Tr.get_put, Nat.reduceEqDiff, reduceCtorEq, if_true, if_false]; rfl) ⟨rfl, hx⟩

def flB (n : Int) : Bool := !(iAnd .u64 (n.fdiv (2 ^ (min (Int.toNat 52) IntKind.u64.bits))) 2047 == 2047) && !(n == 9223372036854775808)
theorem floats_ev (hk : ∀ args H, ok.K 107 args H = none) (hm : ok.testBit 107 = true) : TellsU ok 107 flB := by
  intro n H hn hw
  refine EvF.enter (hk _ _) Tryd.func107 hm rfl ?_
  (repeat refine EvC.seq ?_); refine EvC.reg ?_; simp (config := { maxSteps := 2000000 }) (disch := first | omega | rfl) only [initTm, EL_cons, EL_nil, LX_val, dop_assign, ev_const, put_some, thenC_normal]
  cases h1 : (iAnd .u64 (n.fdiv (2 ^ (min (Int.toNat 52) IntKind.u64.bits))) 2047 == 2047) with
  | true =>
    (repeat refine EvC.seq ?_); refine EvC.reg ?_; simp (config := { maxSteps := 2000000 }) (disch := first | omega | rfl) only [EL_cons, EL_nil, EL_guard, LX_val, LG_tf, dop_assign, dop_move, dop_pick, dPick_bool, dop_bin, ev_const, ev_tmp, Tr.get_put, put_some, Nat.reduceEqDiff, Option.getD_some, reduceCtorEq, if_true, if_false, thenC_normal, guardOf_eq, guardGet_some, List.getElem?_cons_succ, List.getElem?_cons_zero, dBin_neq, dBin_shr, dBin_and, bne, h1, Bool.not_true, Bool.false_eq_true]
    refine EvC.ret ?_
    exact leave_one rfl (by simp only [Tr.get_put, Nat.reduceEqDiff, reduceCtorEq, if_true, if_false]; rfl) ⟨by unfold flB; rw [h1]; rfl, HX.refl hw⟩
  | false =>
    (repeat refine EvC.seq ?_); refine EvC.reg ?_; simp (config := { maxSteps := 2000000 }) (disch := first | omega | rfl) only [EL_cons, EL_nil, EL_guard, LX_val, LG_tt, dop_assign, dop_move, dop_pick, dPick_bool, dop_bin, ev_const, ev_tmp, Tr.get_put, put_some, Nat.reduceEqDiff, Option.getD_some, reduceCtorEq, if_true, if_false, thenC_normal, guardOf_eq, guardGet_some, List.getElem?_cons_succ, List.getElem?_cons_zero, dBin_neq, dBin_shr, dBin_and, bne, h1, Bool.not_false]
    refine EvC.ret ?_
    exact leave_one rfl (by simp only [Tr.get_put, Nat.reduceEqDiff, reduceCtorEq, if_true, if_false]; rfl) ⟨by unfold flB; rw [h1]; rfl, HX.refl hw⟩
end Go.Proofs.YtlllbkjiadcloaaDoor.hb
end

-- W9
section
/- Floats, the plain law: the program's tests and the reference's are one. -/
namespace Go.Proofs.YtlllbkjiadcloaaDoor.hb
open Go Go.RowKit Go.Hb

theorem wrap_u64_nat (q : Nat) (h : q < 18446744073709551616) : IntKind.u64.wrap (q : Int) = (q : Int) := by
  rw [IntKind.wrap_u64]; omega
theorem iAnd_low (q : Nat) (h : q < 18446744073709551616) : iAnd .u64 (q : Int) 2047 = ((q % 2048 : Nat) : Int) := by
  unfold iAnd
  have e : (BitVec.ofInt IntKind.u64.bits (q : Int) &&& BitVec.ofInt IntKind.u64.bits 2047).toNat = q % 2048 := by
    rw [BitVec.toNat_and]
    have h1 : (BitVec.ofInt IntKind.u64.bits (q : Int)).toNat = q := by
      rw [BitVec.ofInt_natCast, BitVec.toNat_ofNat]
      exact Nat.mod_eq_of_lt h
    have h2 : (BitVec.ofInt IntKind.u64.bits 2047).toNat = 2047 := rfl
    rw [h1, h2]
    exact Nat.and_two_pow_sub_one_eq_mod q 11
  rw [e, wrap_u64_nat _ (by omega)]
theorem absN_eq (m : Nat) (h : m < 18446744073709551616) : absN m = m % 9223372036854775808 := by
  unfold absN iAndNot
  have e : (BitVec.ofInt IntKind.u64.bits (m : Int) &&& ~~~BitVec.ofInt IntKind.u64.bits 9223372036854775808).toNat = m % 9223372036854775808 := by
    rw [BitVec.toNat_and]
    have h1 : (BitVec.ofInt IntKind.u64.bits (m : Int)).toNat = m := by
      rw [BitVec.ofInt_natCast, BitVec.toNat_ofNat]
      exact Nat.mod_eq_of_lt h
    have h2 : (~~~BitVec.ofInt IntKind.u64.bits 9223372036854775808).toNat = 9223372036854775807 := rfl
    rw [h1, h2]
    exact Nat.and_two_pow_sub_one_eq_mod m 63
  rw [e, wrap_u64_nat _ (by omega)]
  exact Int.toNat_natCast _

theorem read_eq (w : Nat) : Ieee.double.read w =
    if w % 9223372036854775808 < 4503599627370496 then .number (w / 9223372036854775808 % 2 == 1) (w % 9223372036854775808) (-1074)
    else if w % 9223372036854775808 < 9218868437227405312 then .number (w / 9223372036854775808 % 2 == 1) (4503599627370496 + w % 9223372036854775808 % 4503599627370496) (-1074 + ((w % 9223372036854775808 / 4503599627370496 - 1 : Nat) : Int))
    else if w % 9223372036854775808 = 9218868437227405312 then .infinity (w / 9223372036854775808 % 2 == 1)
    else .nan (w / 9223372036854775808 % 2 == 1) (w % 9223372036854775808 - 9218868437227405312) := rfl

theorem fnB_eq (m : Nat) : (FloatKind.f64.format.order m m != some .eq) = decide (9218868437227405312 < m % 9223372036854775808) := by
  show (Ieee.Datum.order (Ieee.double.read m) (Ieee.double.read m) != some .eq) = _
  rw [read_eq]
  split
  · rename_i h
    rw [decide_eq_false (by omega)]
    simp [Ieee.Datum.order]
  · split
    · rename_i h
      rw [decide_eq_false (by omega)]
      simp [Ieee.Datum.order]
    · split
      · rename_i h
        rw [decide_eq_false (by omega)]
        simp [Ieee.Datum.order]
      · rw [decide_eq_true (by omega)]
        simp [Ieee.Datum.order]

theorem shl_ge (m k : Nat) : m ≤ m <<< k := by
  rw [Nat.shiftLeft_eq]
  exact Nat.le_mul_of_pos_right m (Nat.two_pow_pos k)

theorem fiB_eq (g : Nat) (hg : g < 9223372036854775808) : (FloatKind.f64.format.order g 9218868437227405311 == some .gt) = decide (g = 9218868437227405312) := by
  show (Ieee.Datum.order (Ieee.double.read g) (Ieee.double.read 9218868437227405311) == some .gt) = _
  have hM : Ieee.double.read 9218868437227405311 = .number false 9007199254740991 971 := by rw [read_eq]; rfl
  have hmod : g % 9223372036854775808 = g := Nat.mod_eq_of_lt hg
  have hneg : (g / 9223372036854775808 % 2 == 1) = false := by
    rw [Nat.div_eq_of_lt hg]; rfl
  have key : ∀ (m : Nat) (p : Int), m ≤ 9007199254740991 → p ≤ 971 → (Ieee.Datum.order (.number false m p) (.number false 9007199254740991 971) == some .gt) = false := by
    intro m p hm hp
    simp only [Ieee.Datum.order, Ieee.signed]
    have h1 : min p 971 = p := by omega
    rw [h1]
    have h2 : (p - p).toNat = 0 := by omega
    rw [h2]
    have hle := shl_ge 9007199254740991 (971 - p).toNat
    have hng : compare ((m <<< 0 : Nat) : Int) ((9007199254740991 <<< (971 - p).toNat : Nat) : Int) ≠ .gt := by
      rw [Ne, Int.compare_eq_gt]
      have : m <<< 0 = m := rfl
      rw [this]
      omega
    simpa using hng
  rw [read_eq, hM, hmod, hneg]
  split
  · rename_i h
    rw [decide_eq_false (by omega)]
    exact key _ _ (by omega) (by omega)
  · split
    · rename_i h
      rw [decide_eq_false (by omega)]
      exact key _ _ (by omega) (by omega)
    · split
      · rename_i h
        rw [decide_eq_true h]
        rfl
      · rename_i h
        rw [decide_eq_false h]
        rfl

theorem floats_same (n : Int) (hn : u64 n) : flB n = !(fnB n || fiB n || n == 9223372036854775808) := by
  obtain ⟨m, rfl⟩ : ∃ m : Nat, n = m := ⟨n.toNat, by unfold u64 at hn; omega⟩
  have hm : m < 18446744073709551616 := by unfold u64 at hn; omega
  unfold flB fnB fiB
  have hd : (m : Int).fdiv (2 ^ (min (Int.toNat 52) IntKind.u64.bits)) = ((m / 4503599627370496 : Nat) : Int) := by
    show (m : Int).fdiv 4503599627370496 = _
    rw [Int.fdiv_eq_ediv_of_nonneg _ (by omega)]; rfl
  rw [hd, iAnd_low _ (by omega), Int.toNat_natCast, fnB_eq, absN_eq m hm, fiB_eq _ (Nat.mod_lt _ (by omega))]
  have hc : ((((m / 4503599627370496 % 2048 : Nat) : Int) == 2047)) = (decide (9218868437227405312 < m % 9223372036854775808) || decide (m % 9223372036854775808 = 9218868437227405312)) := by
    rw [Bool.eq_iff_iff]
    simp only [beq_iff_eq, Bool.or_eq_true, decide_eq_true_eq]
    omega
  rw [hc]
  cases decide (9218868437227405312 < m % 9223372036854775808) <;> cases decide (m % 9223372036854775808 = 9218868437227405312) <;> cases ((m : Int) == 9223372036854775808) <;> rfl
end Go.Proofs.YtlllbkjiadcloaaDoor.hb
end

-- X1
section
/- Texts: the rules are Sop3's. -/
namespace Go.Proofs.YtlllbkjiadcloaaDoor.hb
end Go.Proofs.YtlllbkjiadcloaaDoor.hb
end

-- X2
section
/- UTF-8, plainly: the reference's way of telling, and the library's. -/
namespace Go.Hb
open Go.Lib

def contR : Nat → List UInt8 → Nat → Option Nat
  | 0, _, c => some c
  | _ + 1, [], _ => none
  | n + 1, b :: l, c => if b.toNat < 128 ∨ 192 ≤ b.toNat then none else contR n l (c * 64 + b.toNat - 128)
def leadR (b : Nat) : Option (Nat × Nat × Nat) :=
  if 192 ≤ b ∧ b < 224 then some (1, 128, b - 192) else if 224 ≤ b ∧ b < 240 then some (2, 2048, b - 224) else if 240 ≤ b ∧ b < 248 then some (3, 65536, b - 240) else none
abbrev badR (lo c : Nat) : Prop := c < lo ∨ 1114111 < c ∨ (55296 ≤ c ∧ c < 57344)
def stepR (l : List UInt8) : Option Nat :=
  match l with
  | [] => none
  | b :: l => match leadR b.toNat with
    | none => none
    | some (n, lo, c) => match contR n l c with
      | none => none
      | some c => if badR lo c then none else some (n + 1)
def utfR : Nat → List UInt8 → Bool
  | 0, _ => true
  | _ + 1, [] => true
  | k + 1, b :: l => if b.toNat < 128 then utfR k l else match stepR (b :: l) with
    | none => false
    | some n => utfR k ((b :: l).drop n)


/-- the step, over numbers: n bytes are there -/
def stepN (n m b1 b2 b3 : Nat) : Option Nat :=
  if 192 ≤ m ∧ m < 224 then (if n < 2 ∨ b1 < 128 ∨ 192 ≤ b1 then none else if badR 128 ((m - 192) * 64 + b1 - 128) then none else some 2)
  else if 224 ≤ m ∧ m < 240 then (if n < 3 ∨ b1 < 128 ∨ 192 ≤ b1 ∨ b2 < 128 ∨ 192 ≤ b2 then none else if badR 2048 (((m - 224) * 64 + b1 - 128) * 64 + b2 - 128) then none else some 3)
  else if 240 ≤ m ∧ m < 248 then (if n < 4 ∨ b1 < 128 ∨ 192 ≤ b1 ∨ b2 < 128 ∨ 192 ≤ b2 ∨ b3 < 128 ∨ 192 ≤ b3 then none else if badR 65536 ((((m - 240) * 64 + b1 - 128) * 64 + b2 - 128) * 64 + b3 - 128) then none else some 4)
  else none
theorem cont1 (l : List UInt8) (c : Nat) : contR 1 l c = if l.length + 1 < 2 ∨ (l.getD 0 0).toNat < 128 ∨ 192 ≤ (l.getD 0 0).toNat then none else some (c * 64 + (l.getD 0 0).toNat - 128) := by
  cases l with
  | nil => simp [contR]
  | cons b l =>
    simp only [contR, List.length_cons, List.getD_cons_zero]
    repeat' split
    all_goals first | rfl | (exfalso; omega)
theorem cont2 (l : List UInt8) (c : Nat) : contR 2 l c = if l.length + 1 < 3 ∨ (l.getD 0 0).toNat < 128 ∨ 192 ≤ (l.getD 0 0).toNat ∨ (l.getD 1 0).toNat < 128 ∨ 192 ≤ (l.getD 1 0).toNat then none else some ((c * 64 + (l.getD 0 0).toNat - 128) * 64 + (l.getD 1 0).toNat - 128) := by
  match l with
  | [] => simp [contR]
  | [b] => simp [contR]
  | a :: b :: l =>
    simp only [contR, List.length_cons, List.getD_cons_zero, List.getD_cons_succ]
    repeat' split
    all_goals first | rfl | (exfalso; omega)
theorem cont3 (l : List UInt8) (c : Nat) : contR 3 l c = if l.length + 1 < 4 ∨ (l.getD 0 0).toNat < 128 ∨ 192 ≤ (l.getD 0 0).toNat ∨ (l.getD 1 0).toNat < 128 ∨ 192 ≤ (l.getD 1 0).toNat ∨ (l.getD 2 0).toNat < 128 ∨ 192 ≤ (l.getD 2 0).toNat then none
    else some (((c * 64 + (l.getD 0 0).toNat - 128) * 64 + (l.getD 1 0).toNat - 128) * 64 + (l.getD 2 0).toNat - 128) := by
  match l with
  | [] => simp [contR]
  | [b] => simp [contR]
  | [a, b] => simp [contR]
  | a :: b :: e :: l =>
    simp only [contR, List.length_cons, List.getD_cons_zero, List.getD_cons_succ]
    repeat' split
    all_goals first | rfl | (exfalso; omega)
theorem mif {C : Prop} [Decidable C] (x lo k : Nat) : (match (if C then (none : Option Nat) else some x) with | none => none | some c => if badR lo c then none else some k) = if C then none else if badR lo x then none else some k := by
  by_cases h : C <;> simp [h]
theorem stepR_N (b : UInt8) (l : List UInt8) : stepR (b :: l) = stepN (b :: l).length b.toNat ((b :: l).getD 1 0).toNat ((b :: l).getD 2 0).toNat ((b :: l).getD 3 0).toNat := by
  unfold stepR stepN leadR
  simp only [List.length_cons, List.getD_cons_succ]
  by_cases h1 : 192 ≤ b.toNat ∧ b.toNat < 224
  · simp only [if_pos h1]
    rw [cont1]; exact mif ..
  · simp only [if_neg h1]
    by_cases h2 : 224 ≤ b.toNat ∧ b.toNat < 240
    · simp only [if_pos h2]
      rw [cont2]; exact mif ..
    · simp only [if_neg h2]
      by_cases h3 : 240 ≤ b.toNat ∧ b.toNat < 248
      · simp only [if_pos h3]
        rw [cont3]; exact mif ..
      · simp only [if_neg h3]
theorem stepN_check (n m b1 b2 b3 : Nat) (h : ¬ m < 128) (hb : m < 256) (h1 : b1 < 256) (h2 : b2 < 256) (h3 : b3 < 256) :
    stepN n m b1 b2 b3 = checkN n b1 b2 b3 (firstT m % 8) (accLo (firstT m / 16)) (accHi (firstT m / 16)) := by
  have key : ∀ (f : Nat), firstT m = f → stepN n m b1 b2 b3 = checkN n b1 b2 b3 (f % 8) (accLo (f / 16)) (accHi (f / 16)) → 
      stepN n m b1 b2 b3 = checkN n b1 b2 b3 (firstT m % 8) (accLo (firstT m / 16)) (accHi (firstT m / 16)) := by
    rintro f rfl h; exact h
  by_cases c0 : m < 194
  · refine key 241 (by simp [firstT, h, c0]) ?_
    unfold stepN badR
    simp only [accLo, accHi, checkN, Nat.reduceMod, Nat.reduceDiv, Nat.reduceEqDiff, reduceIte]
    repeat' split
    all_goals first | (exfalso; omega) | rfl
  by_cases c1 : m < 224
  · refine key 2 (by simp [firstT, h, c0, c1]) ?_
    unfold stepN badR
    simp only [accLo, accHi, checkN, Nat.reduceMod, Nat.reduceDiv, Nat.reduceEqDiff, reduceIte]
    repeat' split
    all_goals first | (exfalso; omega) | rfl
  by_cases c2 : m = 224
  · subst c2
    refine key 19 (by decide) ?_
    unfold stepN badR
    simp only [accLo, accHi, checkN, Nat.reduceMod, Nat.reduceDiv, Nat.reduceEqDiff, reduceIte]
    repeat' split
    all_goals first | (exfalso; omega) | rfl
  by_cases c3 : m < 237
  · refine key 3 (by simp [firstT, h, c0, c1, c2, c3]) ?_
    unfold stepN badR
    simp only [accLo, accHi, checkN, Nat.reduceMod, Nat.reduceDiv, Nat.reduceEqDiff, reduceIte]
    repeat' split
    all_goals first | (exfalso; omega) | rfl
  by_cases c4 : m = 237
  · subst c4
    refine key 35 (by decide) ?_
    unfold stepN badR
    simp only [accLo, accHi, checkN, Nat.reduceMod, Nat.reduceDiv, Nat.reduceEqDiff, reduceIte]
    repeat' split
    all_goals first | (exfalso; omega) | rfl
  by_cases c5 : m < 240
  · refine key 3 (by simp [firstT, h, c0, c1, c2, c3, c4, c5]) ?_
    unfold stepN badR
    simp only [accLo, accHi, checkN, Nat.reduceMod, Nat.reduceDiv, Nat.reduceEqDiff, reduceIte]
    repeat' split
    all_goals first | (exfalso; omega) | rfl
  by_cases c6 : m = 240
  · subst c6
    refine key 52 (by decide) ?_
    unfold stepN badR
    simp only [accLo, accHi, checkN, Nat.reduceMod, Nat.reduceDiv, Nat.reduceEqDiff, reduceIte]
    repeat' split
    all_goals first | (exfalso; omega) | rfl
  by_cases c7 : m < 244
  · refine key 4 (by simp [firstT, h, c0, c1, c2, c3, c4, c5, c6, c7]) ?_
    unfold stepN badR
    simp only [accLo, accHi, checkN, Nat.reduceMod, Nat.reduceDiv, Nat.reduceEqDiff, reduceIte]
    repeat' split
    all_goals first | (exfalso; omega) | rfl
  by_cases c8 : m = 244
  · subst c8
    refine key 68 (by decide) ?_
    unfold stepN badR
    simp only [accLo, accHi, checkN, Nat.reduceMod, Nat.reduceDiv, Nat.reduceEqDiff, reduceIte]
    repeat' split
    all_goals first | (exfalso; omega) | rfl
  refine key 241 (by simp [firstT, h, c0, c1, c2, c3, c4, c5, c6, c7, c8]) ?_
  unfold stepN badR
  simp only [accLo, accHi, checkN, Nat.reduceMod, Nat.reduceDiv, Nat.reduceEqDiff, reduceIte]
  repeat' split
  all_goals first | (exfalso; omega) | rfl
theorem stepR_pos {l : List UInt8} {n : Nat} (h : stepR l = some n) : 1 ≤ n := by
  unfold stepR at h
  split at h
  · cases h
  · split at h
    · cases h
    · split at h
      · cases h
      · split at h
        · cases h
        · cases h; omega
theorem utfR_valid : ∀ (k : Nat) (l : List UInt8), l.length ≤ k → utfR k l = validD l
  | 0, [], _ => rfl
  | 0, _ :: _, h => by simp at h
  | k + 1, [], _ => rfl
  | k + 1, b :: l, h => by
    rw [utfR]
    split
    · rename_i hb
      rw [validD_cons b l hb]
      exact utfR_valid k l (by simpa using h)
    · rename_i hb
      rw [validD_lead (b :: l) (by simp) (by simpa using Nat.not_lt.1 hb), stepR_N, stepN_check _ _ _ _ _ hb b.toNat_lt (UInt8.toNat_lt _) (UInt8.toNat_lt _) (UInt8.toNat_lt _)]
      have he : stepR (b :: l) = _ := stepR_N b l
      rw [stepN_check _ _ _ _ _ hb b.toNat_lt (UInt8.toNat_lt _) (UInt8.toNat_lt _) (UInt8.toNat_lt _)] at he
      simp only [List.getD_cons_zero]
      cases hc : checkN (b :: l).length ((b :: l).getD 1 0).toNat ((b :: l).getD 2 0).toNat ((b :: l).getD 3 0).toNat (firstT b.toNat % 8) (accLo (firstT b.toNat / 16)) (accHi (firstT b.toNat / 16)) with
      | none => rfl
      | some n =>
        rw [hc] at he
        have hp := stepR_pos he
        refine utfR_valid k _ ?_
        rw [List.length_drop]
        simp at h ⊢
        omega
end Go.Hb
end

-- X3
section
/- UTF-8: the reference's function. -/
namespace Go.Proofs.YtlllbkjiadcloaaDoor.hb
open Go Go.RowKit Go.Hb

theorem toNat_at (s : ByteArray) (i : Nat) (h : i < s.size) : s.data.toList.drop i = (s[i]'h) :: s.data.toList.drop (i + 1) := by
  have h' : i < s.data.toList.length := by simpa using h
  rw [List.drop_eq_getElem_cons h']
  rfl
theorem len_bytes (s : ByteArray) : s.data.toList.length = s.size := by simp

theorem lead_le {m n lo c : Nat} (h : leadR m = some (n, lo, c)) : 1 ≤ n ∧ n ≤ 3 ∧ c < 32 ∧ lo ≤ 65536 := by
  unfold leadR at h
  split at h
  · cases h; omega
  · split at h
    · cases h; omega
    · split at h
      · cases h; omega
      · cases h

variable {ok : Ok}
set_option maxRecDepth 10000
set_option maxHeartbeats 4000000 in
theorem utf_ref_ev (hk : ∀ args H, ok.K 105 args H = none) (hm : ok.testBit 105 = true) : TellsS ok 105 fun s => utfR s.size s.data.toList := by
  intro s H hs hw
  have hs' : s.size ≤ 9223372036854775807 := hs
  refine EvF.enter (hk _ _) Tryd.func105 hm rfl ?_
  (repeat refine EvC.seq ?_); refine EvC.reg ?_; simp (config := { maxSteps := 2000000 }) (disch := first | omega | rfl) only [initTm, EL_cons, EL_nil, LX_val, dop_assign, ev_const, put_some, thenC_normal]
  (repeat refine EvC.seq ?_); refine EvC.reg ?_; simp (config := { maxSteps := 2000000 }) (disch := first | omega | rfl) only [EL_cons, EL_nil, LX_val, dop_assign, ev_const, put_some, thenC_normal]
  (repeat refine EvC.seq ?_)
  refine EvC.block (EvC.loop (fun k st => ∃ tm i, st = ⟨tm, [], H⟩ ∧ k = s.size - i ∧ i ≤ s.size ∧ utfR (s.size - i) (s.data.toList.drop i) = utfR s.size s.data.toList ∧ tm.get 0 = some (.string s) ∧ tm.get 3 = some (.int .i64 (i : Nat))) ?_ s.size _ ?_)
  · rintro k st ⟨tm, i, rfl, hk', hi, hc, g0, g3⟩
    (repeat refine EvC.seq ?_); refine EvC.reg ?_; simp (config := { maxSteps := 2000000 }) (disch := first | omega | rfl) only [EL_cons, EL_nil, LX_val, dop_move, dop_bin, dBin_lss, ev_tmp, Tr.get_put, put_some, Nat.reduceEqDiff, Option.getD_some, reduceCtorEq, if_true, if_false, thenC_normal, dop_len, g0, g3, dLn_string Tryd.underlying9]
    by_cases hlt : i < s.size
    · refine EvC.condT (by simp only [ev_tmp, Tr.get_put, Nat.reduceEqDiff, Option.getD_some, if_true, if_false]; exact congrArg _ (decide_eq_true (by omega))) (EvC.skip ?_)
      try simp (config := { maxSteps := 2000000 }) (disch := first | omega | rfl) only [thenC_normal]
      refine EvC.block ?_
      have hat := toNat_at s i hlt
      have hbt := (s[i]'hlt).toNat_lt
      obtain ⟨m, hm'⟩ : ∃ m, m = (s[i]'hlt).toNat := ⟨_, rfl⟩
      rw [← hm'] at hbt
      have hmB : byteAt s i = m := by rw [byteAt_get s i hlt, hm']
      have hf : s.size - i = (s.size - (i + 1)) + 1 := by omega
      rw [hf, hat, utfR, ← hm'] at hc
      (repeat refine EvC.seq ?_); refine EvC.reg ?_; simp (config := { maxSteps := 2000000 }) (disch := first | omega | rfl) only [EL_cons, EL_nil, LX_val, dop_assign, dop_move, ev_tmp, Tr.get_put, put_some, Nat.reduceEqDiff, Option.getD_some, reduceCtorEq, if_true, if_false, thenC_normal, g0, g3, dop_index, dIdx_byte Tryd.underlying9 hlt, hmB]
      (repeat refine EvC.seq ?_); refine EvC.reg ?_; simp (config := { maxSteps := 2000000 }) (disch := first | omega | rfl) only [EL_cons, EL_nil, LX_val, dop_assign, ev_const, put_some, thenC_normal]
      (repeat refine EvC.seq ?_); refine EvC.reg ?_; simp (config := { maxSteps := 2000000 }) (disch := first | omega | rfl) only [EL_cons, EL_nil, LX_val, dop_assign, ev_const, put_some, thenC_normal]
      (repeat refine EvC.seq ?_); refine EvC.reg ?_; simp (config := { maxSteps := 2000000 }) (disch := first | omega | rfl) only [EL_cons, EL_nil, LX_val, dop_assign, ev_const, put_some, thenC_normal]
      (repeat refine EvC.seq ?_); refine EvC.reg ?_; simp (config := { maxSteps := 2000000 }) (disch := first | omega | rfl) only [EL_cons, EL_nil, LX_val, dop_move, dop_bin, dBin_lss, ev_const, ev_tmp, Tr.get_put, put_some, Nat.reduceEqDiff, Option.getD_some, if_true, if_false, thenC_normal]
      refine EvC.frame (fun tm => tm.get 0 = some (.string s) ∧ tm.get 3 = some (.int .i64 (i : Nat)) ∧ tm.get 4 = some (.int .u8 (m : Nat)) ∧ tm.get 17 = some (.bool (decide ((m : Int) < 128)))) ⟨by simp only [Tr.get_put, reduceCtorEq, if_false]; exact g0, by simp only [Tr.get_put, Nat.reduceEqDiff, if_false]; exact g3, by simp only [Tr.get_put, Nat.reduceEqDiff, if_true, if_false], by simp only [Tr.get_put, Nat.reduceEqDiff, if_true, if_false]⟩ ?_
      clear g0 g3 tm
      rintro tm ⟨g0, g3, g4, g17⟩
      (repeat refine EvC.seq ?_)
      by_cases hasc : m < 128
      · refine EvC.condT (by simp only [ev_tmp, Option.getD_some, g17, decide_eq_true (show (m : Int) < 128 by omega)]) ?_
        (repeat refine EvC.seq ?_); refine EvC.reg ?_; simp (config := { maxSteps := 2000000 }) (disch := first | omega | rfl) only [EL_cons, EL_nil, LX_val, dop_assign, dop_move, dop_bin, dBin_add, ev_const, ev_tmp, Tr.get_put, put_some, Nat.reduceEqDiff, Option.getD_some, if_true, if_false, thenC_normal, g3, wrap_i64]
        refine EvC.exit ?_
        try simp (config := { maxSteps := 2000000 }) (disch := first | omega | rfl) only [reduceCtorEq, if_true, if_false, thenC_normal, inBlock_exit, thenC_exit]
        refine ⟨s.size - (i + 1), by omega, _, i + 1, rfl, rfl, by omega, by rw [← hc, if_pos hasc], by simp only [Tr.get_put, reduceCtorEq, if_false]; exact g0, by simp only [Tr.get_put, Nat.reduceEqDiff, if_true, if_false]; rfl⟩
      rw [if_neg hasc] at hc
      refine EvC.condF (by simp only [ev_tmp, Option.getD_some, g17, decide_eq_false (show ¬ (m : Int) < 128 by omega)]) ?_
      refine EvC.join (fun st => ∃ n lo c tm, leadR m = some (n, lo, c) ∧ st = ⟨tm, [], H⟩ ∧ tm.get 0 = some (.string s) ∧ tm.get 3 = some (.int .i64 (i : Nat)) ∧ tm.get 5 = some (.int .i64 (n : Nat)) ∧ tm.get 6 = some (.int .i64 (lo : Nat)) ∧ tm.get 7 = some (.int .i64 (c : Nat))) ?_ ?_
      · have hcs : m < 192 ∨ (192 ≤ m ∧ m < 224) ∨ (224 ≤ m ∧ m < 240) ∨ (240 ≤ m ∧ m < 248) ∨ 248 ≤ m := by omega
        rcases hcs with h | ⟨h, h'⟩ | ⟨h, h'⟩ | ⟨h, h'⟩ | h
        · have q1 : decide ((m : Int) ≥ 192) = false := decide_eq_false (by omega)
          have q3 : decide ((m : Int) ≥ 224) = false := decide_eq_false (by omega)
          have q5 : decide ((m : Int) ≥ 240) = false := decide_eq_false (by omega)
          have hl : leadR m = none := by unfold leadR; rw [if_neg (by omega), if_neg (by omega), if_neg (by omega)]
          (repeat refine EvC.seq ?_); refine EvC.reg ?_; simp (config := { maxSteps := 2000000 }) (disch := first | omega | rfl) only [EL_cons, EL_nil, EL_guard, LX_val, LG_tf, dop_move, dop_pick, dPick_bool, dop_bin, ev_const, ev_tmp, Tr.get_put, put_some, Nat.reduceEqDiff, Option.getD_some, if_true, if_false, thenC_normal, guardOf_eq, guardGet_some, List.getElem?_cons_succ, List.getElem?_cons_zero, dBin_geq, g4, q1, Bool.false_eq_true]
          (repeat refine EvC.seq ?_); refine EvC.condF (by simp only [ev_tmp, Tr.get_put, Nat.reduceEqDiff, Option.getD_some, if_true, if_false]) ?_
          (repeat refine EvC.seq ?_); refine EvC.reg ?_; simp (config := { maxSteps := 2000000 }) (disch := first | omega | rfl) only [EL_cons, EL_nil, EL_guard, LX_val, LG_tf, dop_move, dop_pick, dPick_bool, dop_bin, ev_const, ev_tmp, Tr.get_put, put_some, Nat.reduceEqDiff, Option.getD_some, if_true, if_false, thenC_normal, guardOf_eq, guardGet_some, List.getElem?_cons_succ, List.getElem?_cons_zero, dBin_geq, g4, q3, Bool.false_eq_true]
          (repeat refine EvC.seq ?_); refine EvC.condF (by simp only [ev_tmp, Tr.get_put, Nat.reduceEqDiff, Option.getD_some, if_true, if_false]) ?_
          (repeat refine EvC.seq ?_); refine EvC.reg ?_; simp (config := { maxSteps := 2000000 }) (disch := first | omega | rfl) only [EL_cons, EL_nil, EL_guard, LX_val, LG_tf, dop_move, dop_pick, dPick_bool, dop_bin, ev_const, ev_tmp, Tr.get_put, put_some, Nat.reduceEqDiff, Option.getD_some, if_true, if_false, thenC_normal, guardOf_eq, guardGet_some, List.getElem?_cons_succ, List.getElem?_cons_zero, dBin_geq, g4, q5, Bool.false_eq_true]
          (repeat refine EvC.seq ?_); refine EvC.condF (by simp only [ev_tmp, Tr.get_put, Nat.reduceEqDiff, Option.getD_some, if_true, if_false]) ?_
          (repeat refine EvC.seq ?_); refine EvC.reg ?_; simp (config := { maxSteps := 2000000 }) (disch := first | omega | rfl) only [EL_cons, EL_nil, LX_val, dop_assign, ev_const, put_some, thenC_normal]
          refine EvC.ret ?_
          try simp (config := { maxSteps := 2000000 }) (disch := first | omega | rfl) only [thenC_ret, inBlock_ret]
          exact leave_one rfl (by simp only [Tr.get_put, Nat.reduceEqDiff, if_true, if_false]; rfl) ⟨by rw [← hc]; simp only [stepR, ← hm', hl], HX.refl hw⟩
        · have q1 : decide ((m : Int) ≥ 192) = true := decide_eq_true (by omega)
          have q2 : decide ((m : Int) < 224) = true := decide_eq_true (by omega)
          have hl : leadR m = some (1, 128, m - 192) := by unfold leadR; rw [if_pos (by omega)]
          (repeat refine EvC.seq ?_); refine EvC.reg ?_; simp (config := { maxSteps := 2000000 }) (disch := first | omega | rfl) only [EL_cons, EL_nil, EL_guard, LX_val, LG_tt, dop_move, dop_pick, dPick_bool, dop_bin, dBin_lss, ev_const, ev_tmp, Tr.get_put, put_some, Nat.reduceEqDiff, Option.getD_some, if_true, if_false, thenC_normal, guardOf_eq, guardGet_some, List.getElem?_cons_succ, List.getElem?_cons_zero, dBin_geq, g4, q1, q2]
          (repeat refine EvC.seq ?_); refine EvC.condT (by simp only [ev_tmp, Tr.get_put, Nat.reduceEqDiff, Option.getD_some, if_true, if_false]) ?_
          (repeat refine EvC.seq ?_); refine EvC.reg ?_; simp (config := { maxSteps := 2000000 }) (disch := first | omega | rfl) only [EL_cons, EL_nil, LX_val, dop_assign, ev_const, put_some, thenC_normal]
          (repeat refine EvC.seq ?_); refine EvC.reg ?_; simp (config := { maxSteps := 2000000 }) (disch := first | omega | rfl) only [EL_cons, EL_nil, LX_val, dop_assign, ev_const, put_some, thenC_normal]
          (repeat refine EvC.seq ?_); refine EvC.reg ?_; simp (config := { maxSteps := 2000000 }) (disch := first | omega | rfl) only [EL_cons, EL_nil, LX_val, dop_assign, dop_move, dop_bin, ev_const, ev_tmp, Tr.get_put, put_some, Nat.reduceEqDiff, Option.getD_some, if_true, if_false, thenC_normal, dBin_sub, g4, dop_convert, dCon_int Tryd.underlying5 Tryd.underlying3, wrap_i64]
          exact ⟨1, 128, m - 192, _, hl, rfl, by simp only [Tr.get_put, reduceCtorEq, if_false]; exact g0, by simp only [Tr.get_put, Nat.reduceEqDiff, if_false]; exact g3, by simp only [Tr.get_put, Nat.reduceEqDiff, if_true, if_false]; rfl, by simp only [Tr.get_put, Nat.reduceEqDiff, if_true, if_false]; rfl, by simp only [Tr.get_put, Nat.reduceEqDiff, if_true, if_false]; exact congrArg (fun z => some (Value.int .i64 z)) (by omega)⟩
        · have q1 : decide ((m : Int) ≥ 192) = true := decide_eq_true (by omega)
          have q2 : decide ((m : Int) < 224) = false := decide_eq_false (by omega)
          have q3 : decide ((m : Int) ≥ 224) = true := decide_eq_true (by omega)
          have q4 : decide ((m : Int) < 240) = true := decide_eq_true (by omega)
          have hl : leadR m = some (2, 2048, m - 224) := by unfold leadR; rw [if_neg (by omega), if_pos (by omega)]
          (repeat refine EvC.seq ?_); refine EvC.reg ?_; simp (config := { maxSteps := 2000000 }) (disch := first | omega | rfl) only [EL_cons, EL_nil, EL_guard, LX_val, LG_tt, dop_move, dop_pick, dPick_bool, dop_bin, dBin_lss, ev_const, ev_tmp, Tr.get_put, put_some, Nat.reduceEqDiff, Option.getD_some, if_true, if_false, thenC_normal, guardOf_eq, guardGet_some, List.getElem?_cons_succ, List.getElem?_cons_zero, dBin_geq, g4, q1, q2]
          (repeat refine EvC.seq ?_); refine EvC.condF (by simp only [ev_tmp, Tr.get_put, Nat.reduceEqDiff, Option.getD_some, if_true, if_false]) ?_
          (repeat refine EvC.seq ?_); refine EvC.reg ?_; simp (config := { maxSteps := 2000000 }) (disch := first | omega | rfl) only [EL_cons, EL_nil, EL_guard, LX_val, LG_tt, dop_move, dop_pick, dPick_bool, dop_bin, dBin_lss, ev_const, ev_tmp, Tr.get_put, put_some, Nat.reduceEqDiff, Option.getD_some, if_true, if_false, thenC_normal, guardOf_eq, guardGet_some, List.getElem?_cons_succ, List.getElem?_cons_zero, dBin_geq, g4, q3, q4]
          (repeat refine EvC.seq ?_); refine EvC.condT (by simp only [ev_tmp, Tr.get_put, Nat.reduceEqDiff, Option.getD_some, if_true, if_false]) ?_
          (repeat refine EvC.seq ?_); refine EvC.reg ?_; simp (config := { maxSteps := 2000000 }) (disch := first | omega | rfl) only [EL_cons, EL_nil, LX_val, dop_assign, ev_const, put_some, thenC_normal]
          (repeat refine EvC.seq ?_); refine EvC.reg ?_; simp (config := { maxSteps := 2000000 }) (disch := first | omega | rfl) only [EL_cons, EL_nil, LX_val, dop_assign, ev_const, put_some, thenC_normal]
          (repeat refine EvC.seq ?_); refine EvC.reg ?_; simp (config := { maxSteps := 2000000 }) (disch := first | omega | rfl) only [EL_cons, EL_nil, LX_val, dop_assign, dop_move, dop_bin, ev_const, ev_tmp, Tr.get_put, put_some, Nat.reduceEqDiff, Option.getD_some, if_true, if_false, thenC_normal, dBin_sub, g4, dop_convert, dCon_int Tryd.underlying5 Tryd.underlying3, wrap_i64]
          exact ⟨2, 2048, m - 224, _, hl, rfl, by simp only [Tr.get_put, reduceCtorEq, if_false]; exact g0, by simp only [Tr.get_put, Nat.reduceEqDiff, if_false]; exact g3, by simp only [Tr.get_put, Nat.reduceEqDiff, if_true, if_false]; rfl, by simp only [Tr.get_put, Nat.reduceEqDiff, if_true, if_false]; rfl, by simp only [Tr.get_put, Nat.reduceEqDiff, if_true, if_false]; exact congrArg (fun z => some (Value.int .i64 z)) (by omega)⟩
        · have q1 : decide ((m : Int) ≥ 192) = true := decide_eq_true (by omega)
          have q2 : decide ((m : Int) < 224) = false := decide_eq_false (by omega)
          have q3 : decide ((m : Int) ≥ 224) = true := decide_eq_true (by omega)
          have q4 : decide ((m : Int) < 240) = false := decide_eq_false (by omega)
          have q5 : decide ((m : Int) ≥ 240) = true := decide_eq_true (by omega)
          have q6 : decide ((m : Int) < 248) = true := decide_eq_true (by omega)
          have hl : leadR m = some (3, 65536, m - 240) := by unfold leadR; rw [if_neg (by omega), if_neg (by omega), if_pos (by omega)]
          (repeat refine EvC.seq ?_); refine EvC.reg ?_; simp (config := { maxSteps := 2000000 }) (disch := first | omega | rfl) only [EL_cons, EL_nil, EL_guard, LX_val, LG_tt, dop_move, dop_pick, dPick_bool, dop_bin, dBin_lss, ev_const, ev_tmp, Tr.get_put, put_some, Nat.reduceEqDiff, Option.getD_some, if_true, if_false, thenC_normal, guardOf_eq, guardGet_some, List.getElem?_cons_succ, List.getElem?_cons_zero, dBin_geq, g4, q1, q2]
          (repeat refine EvC.seq ?_); refine EvC.condF (by simp only [ev_tmp, Tr.get_put, Nat.reduceEqDiff, Option.getD_some, if_true, if_false]) ?_
          (repeat refine EvC.seq ?_); refine EvC.reg ?_; simp (config := { maxSteps := 2000000 }) (disch := first | omega | rfl) only [EL_cons, EL_nil, EL_guard, LX_val, LG_tt, dop_move, dop_pick, dPick_bool, dop_bin, dBin_lss, ev_const, ev_tmp, Tr.get_put, put_some, Nat.reduceEqDiff, Option.getD_some, if_true, if_false, thenC_normal, guardOf_eq, guardGet_some, List.getElem?_cons_succ, List.getElem?_cons_zero, dBin_geq, g4, q3, q4]
          (repeat refine EvC.seq ?_); refine EvC.condF (by simp only [ev_tmp, Tr.get_put, Nat.reduceEqDiff, Option.getD_some, if_true, if_false]) ?_
          (repeat refine EvC.seq ?_); refine EvC.reg ?_; simp (config := { maxSteps := 2000000 }) (disch := first | omega | rfl) only [EL_cons, EL_nil, EL_guard, LX_val, LG_tt, dop_move, dop_pick, dPick_bool, dop_bin, dBin_lss, ev_const, ev_tmp, Tr.get_put, put_some, Nat.reduceEqDiff, Option.getD_some, if_true, if_false, thenC_normal, guardOf_eq, guardGet_some, List.getElem?_cons_succ, List.getElem?_cons_zero, dBin_geq, g4, q5, q6]
          (repeat refine EvC.seq ?_); refine EvC.condT (by simp only [ev_tmp, Tr.get_put, Nat.reduceEqDiff, Option.getD_some, if_true, if_false]) ?_
          (repeat refine EvC.seq ?_); refine EvC.reg ?_; simp (config := { maxSteps := 2000000 }) (disch := first | omega | rfl) only [EL_cons, EL_nil, LX_val, dop_assign, ev_const, put_some, thenC_normal]
          (repeat refine EvC.seq ?_); refine EvC.reg ?_; simp (config := { maxSteps := 2000000 }) (disch := first | omega | rfl) only [EL_cons, EL_nil, LX_val, dop_assign, ev_const, put_some, thenC_normal]
          (repeat refine EvC.seq ?_); refine EvC.reg ?_; simp (config := { maxSteps := 2000000 }) (disch := first | omega | rfl) only [EL_cons, EL_nil, LX_val, dop_assign, dop_move, dop_bin, ev_const, ev_tmp, Tr.get_put, put_some, Nat.reduceEqDiff, Option.getD_some, if_true, if_false, thenC_normal, dBin_sub, g4, dop_convert, dCon_int Tryd.underlying5 Tryd.underlying3, wrap_i64]
          exact ⟨3, 65536, m - 240, _, hl, rfl, by simp only [Tr.get_put, reduceCtorEq, if_false]; exact g0, by simp only [Tr.get_put, Nat.reduceEqDiff, if_false]; exact g3, by simp only [Tr.get_put, Nat.reduceEqDiff, if_true, if_false]; rfl, by simp only [Tr.get_put, Nat.reduceEqDiff, if_true, if_false]; rfl, by simp only [Tr.get_put, Nat.reduceEqDiff, if_true, if_false]; exact congrArg (fun z => some (Value.int .i64 z)) (by omega)⟩
        · have q1 : decide ((m : Int) ≥ 192) = true := decide_eq_true (by omega)
          have q2 : decide ((m : Int) < 224) = false := decide_eq_false (by omega)
          have q3 : decide ((m : Int) ≥ 224) = true := decide_eq_true (by omega)
          have q4 : decide ((m : Int) < 240) = false := decide_eq_false (by omega)
          have q5 : decide ((m : Int) ≥ 240) = true := decide_eq_true (by omega)
          have q6 : decide ((m : Int) < 248) = false := decide_eq_false (by omega)
          have hl : leadR m = none := by unfold leadR; rw [if_neg (by omega), if_neg (by omega), if_neg (by omega)]
          (repeat refine EvC.seq ?_); refine EvC.reg ?_; simp (config := { maxSteps := 2000000 }) (disch := first | omega | rfl) only [EL_cons, EL_nil, EL_guard, LX_val, LG_tt, dop_move, dop_pick, dPick_bool, dop_bin, dBin_lss, ev_const, ev_tmp, Tr.get_put, put_some, Nat.reduceEqDiff, Option.getD_some, if_true, if_false, thenC_normal, guardOf_eq, guardGet_some, List.getElem?_cons_succ, List.getElem?_cons_zero, dBin_geq, g4, q1, q2]
          (repeat refine EvC.seq ?_); refine EvC.condF (by simp only [ev_tmp, Tr.get_put, Nat.reduceEqDiff, Option.getD_some, if_true, if_false]) ?_
          (repeat refine EvC.seq ?_); refine EvC.reg ?_; simp (config := { maxSteps := 2000000 }) (disch := first | omega | rfl) only [EL_cons, EL_nil, EL_guard, LX_val, LG_tt, dop_move, dop_pick, dPick_bool, dop_bin, dBin_lss, ev_const, ev_tmp, Tr.get_put, put_some, Nat.reduceEqDiff, Option.getD_some, if_true, if_false, thenC_normal, guardOf_eq, guardGet_some, List.getElem?_cons_succ, List.getElem?_cons_zero, dBin_geq, g4, q3, q4]
          (repeat refine EvC.seq ?_); refine EvC.condF (by simp only [ev_tmp, Tr.get_put, Nat.reduceEqDiff, Option.getD_some, if_true, if_false]) ?_
          (repeat refine EvC.seq ?_); refine EvC.reg ?_; simp (config := { maxSteps := 2000000 }) (disch := first | omega | rfl) only [EL_cons, EL_nil, EL_guard, LX_val, LG_tt, dop_move, dop_pick, dPick_bool, dop_bin, dBin_lss, ev_const, ev_tmp, Tr.get_put, put_some, Nat.reduceEqDiff, Option.getD_some, if_true, if_false, thenC_normal, guardOf_eq, guardGet_some, List.getElem?_cons_succ, List.getElem?_cons_zero, dBin_geq, g4, q5, q6]
          (repeat refine EvC.seq ?_); refine EvC.condF (by simp only [ev_tmp, Tr.get_put, Nat.reduceEqDiff, Option.getD_some, if_true, if_false]) ?_
          (repeat refine EvC.seq ?_); refine EvC.reg ?_; simp (config := { maxSteps := 2000000 }) (disch := first | omega | rfl) only [EL_cons, EL_nil, LX_val, dop_assign, ev_const, put_some, thenC_normal]
          refine EvC.ret ?_
          try simp (config := { maxSteps := 2000000 }) (disch := first | omega | rfl) only [thenC_ret, inBlock_ret]
          exact leave_one rfl (by simp only [Tr.get_put, Nat.reduceEqDiff, if_true, if_false]; rfl) ⟨by rw [← hc]; simp only [stepR, ← hm', hl], HX.refl hw⟩
      rintro st ⟨n, lo, c, tm1, hlead, rfl, f0, f3, f5, f6, f7⟩
      clear g0 g3 g4 g17 tm
      try simp (config := { maxSteps := 2000000 }) (disch := first | omega | rfl) only [thenC_normal]
      have hle := lead_le hlead
      (repeat refine EvC.seq ?_); refine EvC.reg ?_; simp (config := { maxSteps := 2000000 }) (disch := first | omega | rfl) only [EL_cons, EL_nil, LX_val, dop_assign, ev_const, put_some, thenC_normal]
      (repeat refine EvC.seq ?_)
      refine EvC.join (fun st => ∃ c' tm, contR n (s.data.toList.drop (i + 1)) c = some c' ∧ c' < 8388608 ∧ i + 1 + n ≤ s.size ∧ st = ⟨tm, [], H⟩ ∧ tm.get 0 = some (.string s) ∧ tm.get 3 = some (.int .i64 (i : Nat)) ∧ tm.get 5 = some (.int .i64 (n : Nat)) ∧ tm.get 6 = some (.int .i64 (lo : Nat)) ∧ tm.get 7 = some (.int .i64 (c' : Nat))) ?_ ?_
      · refine EvC.block (EvC.loop (fun k st => ∃ tm j c', st = ⟨tm, [], H⟩ ∧ k = n - j ∧ j ≤ n ∧ ((j = 0 ∧ c' < 32) ∨ (j = 1 ∧ c' < 2048) ∨ (j = 2 ∧ c' < 131072) ∨ (j = 3 ∧ c' < 8388608)) ∧ i + 1 + j ≤ s.size ∧ contR (n - j) (s.data.toList.drop (i + 1 + j)) c' = contR n (s.data.toList.drop (i + 1)) c ∧ tm.get 0 = some (.string s) ∧ tm.get 3 = some (.int .i64 (i : Nat)) ∧ tm.get 5 = some (.int .i64 (n : Nat)) ∧ tm.get 6 = some (.int .i64 (lo : Nat)) ∧ tm.get 7 = some (.int .i64 (c' : Nat)) ∧ tm.get 8 = some (.int .i64 ((j + 1 : Nat) : Int))) ?_ n _ ?_)
        · rintro k st ⟨tm, j, c', rfl, hkj, hj, hcl, hij, hcc, e0, e3, e5, e6, e7, e8⟩
          have hcb : c' < 8388608 := by omega
          (repeat refine EvC.seq ?_); refine EvC.reg ?_; simp (config := { maxSteps := 2000000 }) (disch := first | omega | rfl) only [EL_cons, EL_nil, LX_val, dop_move, dop_bin, ev_tmp, Tr.get_put, put_some, Nat.reduceEqDiff, Option.getD_some, if_true, if_false, thenC_normal, dBin_leq, e5, e8]
          (repeat refine EvC.seq ?_)
          by_cases hjn : j + 1 ≤ n
          · refine EvC.condT (by simp only [ev_tmp, Tr.get_put, Nat.reduceEqDiff, Option.getD_some, if_true, if_false]; exact congrArg _ (decide_eq_true (by omega))) (EvC.skip ?_)
            try simp (config := { maxSteps := 2000000 }) (disch := first | omega | rfl) only [thenC_normal]
            refine EvC.seq ?_
            have hw1 : IntKind.i64.wrap ((i : Int) + ((j + 1 : Nat) : Int)) = ((i + 1 + j : Nat) : Int) := by rw [wrap_i64 (by omega) (by omega)]; omega
            have hnj : n - j = (n - (j + 1)) + 1 := by omega
            by_cases hend : i + 1 + j < s.size
            · have hat2 := toNat_at s (i + 1 + j) hend
              have hbt2 := (s[i + 1 + j]'hend).toNat_lt
              obtain ⟨b, hb'⟩ : ∃ b, b = (s[i + 1 + j]'hend).toNat := ⟨_, rfl⟩
              rw [← hb'] at hbt2
              have hbB : byteAt s (i + 1 + j) = b := by rw [byteAt_get s _ hend, hb']
              rw [hnj, hat2, contR, ← hb'] at hcc
              have q1 : decide (((i + 1 + j : Nat) : Int) ≥ (s.size : Int)) = false := decide_eq_false (by omega)
              refine EvC.block ?_
              by_cases hbad : b < 128 ∨ 192 ≤ b
              · rw [if_pos hbad] at hcc
                have hst : stepR (s[i] :: s.data.toList.drop (i + 1)) = none := by simp only [stepR, ← hm', hlead, ← hcc]
                have fin : utfR s.size s.data.toList = false := by rw [← hc, hst]
                by_cases h2 : b < 128
                · have q2 : decide ((b : Int) < 128) = true := decide_eq_true (by omega)
                  (repeat refine EvC.seq ?_); refine EvC.reg ?_; simp (config := { maxSteps := 2000000 }) (disch := first | omega | rfl) only [EL_cons, EL_nil, EL_guard, LX_val, LG_ff, LG_ft, dop_move, dop_pick, dPick_bool, dop_bin, dBin_add, dBin_lss, ev_const, ev_tmp, Tr.get_put, put_some, Nat.reduceEqDiff, Option.getD_some, reduceCtorEq, if_true, if_false, thenC_normal, guardOf_eq, guardGet_some, List.getElem?_cons_succ, List.getElem?_cons_zero, dBin_geq, dop_len, e0, e3, e8, hw1, q1, q2, dLn_string Tryd.underlying9, dop_index, dIdx_byte Tryd.underlying9 hend, hbB, Bool.false_eq_true]
                  (repeat refine EvC.seq ?_); refine EvC.condT (by simp only [ev_tmp, Tr.get_put, Nat.reduceEqDiff, Option.getD_some, if_true, if_false]) ?_
                  (repeat refine EvC.seq ?_); refine EvC.reg ?_; simp (config := { maxSteps := 2000000 }) (disch := first | omega | rfl) only [EL_cons, EL_nil, LX_val, dop_assign, ev_const, put_some, thenC_normal]
                  refine EvC.ret ?_
                  try simp (config := { maxSteps := 2000000 }) (disch := first | omega | rfl) only [thenC_ret, inBlock_ret]
                  exact leave_one rfl (by simp only [Tr.get_put, Nat.reduceEqDiff, if_true, if_false]; rfl) ⟨by rw [fin], HX.refl hw⟩
                · have q2 : decide ((b : Int) < 128) = false := decide_eq_false (by omega)
                  have q3 : decide ((b : Int) ≥ 192) = true := decide_eq_true (by omega)
                  (repeat refine EvC.seq ?_); refine EvC.reg ?_; simp (config := { maxSteps := 2000000 }) (disch := first | omega | rfl) only [EL_cons, EL_nil, EL_guard, LX_val, LG_ff, dop_move, dop_pick, dPick_bool, dop_bin, dBin_add, dBin_lss, ev_const, ev_tmp, Tr.get_put, put_some, Nat.reduceEqDiff, Option.getD_some, reduceCtorEq, if_true, if_false, thenC_normal, guardOf_eq, guardGet_some, List.getElem?_cons_succ, List.getElem?_cons_zero, dBin_geq, dop_len, e0, e3, e8, hw1, q1, q2, q3, dLn_string Tryd.underlying9, dop_index, dIdx_byte Tryd.underlying9 hend, hbB, Bool.false_eq_true]
                  (repeat refine EvC.seq ?_); refine EvC.condT (by simp only [ev_tmp, Tr.get_put, Nat.reduceEqDiff, Option.getD_some, if_true, if_false]) ?_
                  (repeat refine EvC.seq ?_); refine EvC.reg ?_; simp (config := { maxSteps := 2000000 }) (disch := first | omega | rfl) only [EL_cons, EL_nil, LX_val, dop_assign, ev_const, put_some, thenC_normal]
                  refine EvC.ret ?_
                  try simp (config := { maxSteps := 2000000 }) (disch := first | omega | rfl) only [thenC_ret, inBlock_ret]
                  exact leave_one rfl (by simp only [Tr.get_put, Nat.reduceEqDiff, if_true, if_false]; rfl) ⟨by rw [fin], HX.refl hw⟩
              · rw [if_neg hbad] at hcc
                have q2 : decide ((b : Int) < 128) = false := decide_eq_false (by omega)
                have q3 : decide ((b : Int) ≥ 192) = false := decide_eq_false (by omega)
                (repeat refine EvC.seq ?_); refine EvC.reg ?_; simp (config := { maxSteps := 2000000 }) (disch := first | omega | rfl) only [EL_cons, EL_nil, EL_guard, LX_val, LG_ff, dop_move, dop_pick, dPick_bool, dop_bin, dBin_add, dBin_lss, ev_const, ev_tmp, Tr.get_put, put_some, Nat.reduceEqDiff, Option.getD_some, reduceCtorEq, if_true, if_false, thenC_normal, guardOf_eq, guardGet_some, List.getElem?_cons_succ, List.getElem?_cons_zero, dBin_geq, dop_len, e0, e3, e8, hw1, q1, q2, q3, dLn_string Tryd.underlying9, dop_index, dIdx_byte Tryd.underlying9 hend, hbB, Bool.false_eq_true]
                (repeat refine EvC.seq ?_); refine EvC.condF (by simp only [ev_tmp, Tr.get_put, Nat.reduceEqDiff, Option.getD_some, if_true, if_false]) (EvC.skip ?_)
                try simp (config := { maxSteps := 2000000 }) (disch := first | omega | rfl) only [thenC_normal]
                (repeat refine EvC.seq ?_); refine EvC.reg ?_; simp (config := { maxSteps := 2000000 }) (disch := first | omega | rfl) only [EL_cons, EL_nil, LX_val, dop_assign, dop_move, dop_bin, dBin_add, ev_const, ev_tmp, Tr.get_put, put_some, Nat.reduceEqDiff, Option.getD_some, reduceCtorEq, if_true, if_false, thenC_normal, inBlock_normal, dBin_sub, dBin_mul, e0, e3, e7, e8, hw1, dop_index, dIdx_byte Tryd.underlying9 hend, hbB, dop_convert, dCon_int Tryd.underlying5 Tryd.underlying3, wrap_i64]
                (repeat refine EvC.seq ?_); refine EvC.reg ?_; simp (config := { maxSteps := 2000000 }) (disch := first | omega | rfl) only [EL_cons, EL_nil, LX_val, dop_assign, dop_move, dop_bin, dBin_add, ev_const, ev_tmp, Tr.get_put, put_some, Nat.reduceEqDiff, Option.getD_some, if_true, if_false, thenC_normal, e8, wrap_i64]
                exact ⟨n - (j + 1), by omega, _, j + 1, c' * 64 + b - 128, rfl, rfl, hjn, by omega, by omega, hcc, by simp only [Tr.get_put, reduceCtorEq, if_false]; exact e0, by simp only [Tr.get_put, Nat.reduceEqDiff, if_false]; exact e3, by simp only [Tr.get_put, Nat.reduceEqDiff, if_false]; exact e5, by simp only [Tr.get_put, Nat.reduceEqDiff, if_false]; exact e6, by simp only [Tr.get_put, Nat.reduceEqDiff, if_true, if_false]; exact congrArg (fun z => some (Value.int .i64 z)) (by omega), by simp only [Tr.get_put, Nat.reduceEqDiff, if_true, if_false]; rfl⟩
            · have q1 : decide (((i + 1 + j : Nat) : Int) ≥ (s.size : Int)) = true := decide_eq_true (by omega)
              have hnil : s.data.toList.drop (i + 1 + j) = [] := List.drop_of_length_le (by rw [len_bytes]; omega)
              rw [hnj, hnil, contR] at hcc
              have hst : stepR (s[i] :: s.data.toList.drop (i + 1)) = none := by simp only [stepR, ← hm', hlead, ← hcc]
              have fin : utfR s.size s.data.toList = false := by rw [← hc, hst]
              refine EvC.block ?_
              (repeat refine EvC.seq ?_); refine EvC.reg ?_; simp (config := { maxSteps := 2000000 }) (disch := first | omega | rfl) only [EL_cons, EL_nil, EL_guard, LX_val, LG_ft, dop_move, dop_pick, dPick_bool, dop_bin, dBin_add, ev_const, ev_tmp, Tr.get_put, put_some, Nat.reduceEqDiff, Option.getD_some, reduceCtorEq, if_true, if_false, thenC_normal, guardOf_eq, guardGet_some, List.getElem?_cons_succ, List.getElem?_cons_zero, dBin_geq, dop_len, e0, e3, e8, hw1, q1, dLn_string Tryd.underlying9]
              (repeat refine EvC.seq ?_); refine EvC.condT (by simp only [ev_tmp, Tr.get_put, Nat.reduceEqDiff, Option.getD_some, if_true, if_false]) ?_
              (repeat refine EvC.seq ?_); refine EvC.reg ?_; simp (config := { maxSteps := 2000000 }) (disch := first | omega | rfl) only [EL_cons, EL_nil, LX_val, dop_assign, ev_const, put_some, thenC_normal]
              refine EvC.ret ?_
              try simp (config := { maxSteps := 2000000 }) (disch := first | omega | rfl) only [thenC_ret, inBlock_ret]
              exact leave_one rfl (by simp only [Tr.get_put, Nat.reduceEqDiff, if_true, if_false]; rfl) ⟨by rw [fin], HX.refl hw⟩
          · refine EvC.condF (by simp only [ev_tmp, Tr.get_put, Nat.reduceEqDiff, Option.getD_some, if_true, if_false]; exact congrArg _ (decide_eq_false (by omega))) (EvC.exit ?_)
            try simp (config := { maxSteps := 2000000 }) (disch := first | omega | rfl) only [Nat.reduceEqDiff, reduceCtorEq, if_true, if_false, thenC_normal, inBlock_exit, thenC_exit]
            have hjn' : n - j = 0 := by omega
            have hjn2 : j = n := by omega
            rw [hjn', contR] at hcc
            exact ⟨c', _, hcc.symm, hcb, by omega, rfl, by simp only [Tr.get_put, reduceCtorEq, if_false]; exact e0, by simp only [Tr.get_put, Nat.reduceEqDiff, if_false]; exact e3, by simp only [Tr.get_put, Nat.reduceEqDiff, if_false]; exact e5, by simp only [Tr.get_put, Nat.reduceEqDiff, if_false]; exact e6, by simp only [Tr.get_put, Nat.reduceEqDiff, if_false]; exact e7⟩
        · exact ⟨_, 0, c, rfl, by omega, by omega, by omega, by omega, by simp only [Nat.sub_zero, Nat.add_zero], by simp only [Tr.get_put, reduceCtorEq, if_false]; exact f0, by simp only [Tr.get_put, Nat.reduceEqDiff, if_false]; exact f3, by simp only [Tr.get_put, Nat.reduceEqDiff, if_false]; exact f5, by simp only [Tr.get_put, Nat.reduceEqDiff, if_false]; exact f6, by simp only [Tr.get_put, Nat.reduceEqDiff, if_false]; exact f7, by simp only [Tr.get_put, Nat.zero_add, if_true]; rfl⟩
      rintro st ⟨c', tm, hcont, hcb, hin, rfl, e0, e3, e5, e6, e7⟩
      clear f0 f3 f5 f6 f7
      try simp (config := { maxSteps := 2000000 }) (disch := first | omega | rfl) only [thenC_normal]
      by_cases hbad : badR lo c'
      · have hst : stepR (s[i] :: s.data.toList.drop (i + 1)) = none := by simp only [stepR, ← hm', hlead, hcont, if_pos hbad]
        have fin : utfR s.size s.data.toList = false := by rw [← hc, hst]
        rcases hbad with h1 | h1
        · have q1 : decide ((c' : Int) < (lo : Int)) = true := decide_eq_true (by omega)
          (repeat refine EvC.seq ?_); refine EvC.reg ?_; simp (config := { maxSteps := 2000000 }) (disch := first | omega | rfl) only [EL_cons, EL_nil, EL_guard, LX_val, LG_ft, LG_undef, dop_move, dop_pick, dPick_bool, dop_bin, dBin_lss, ev_const, ev_tmp, Tr.get_put, put_some, Nat.reduceEqDiff, Option.getD_some, if_true, if_false, thenC_normal, guardOf_eq, guardGet_some, List.getElem?_cons_succ, List.getElem?_cons_zero, e6, e7, q1]
          (repeat refine EvC.seq ?_); refine EvC.condT (by simp only [ev_tmp, Tr.get_put, Nat.reduceEqDiff, Option.getD_some, if_true, if_false]) ?_
          (repeat refine EvC.seq ?_); refine EvC.reg ?_; simp (config := { maxSteps := 2000000 }) (disch := first | omega | rfl) only [EL_cons, EL_nil, LX_val, dop_assign, ev_const, put_some, thenC_normal]
          refine EvC.ret ?_
          try simp (config := { maxSteps := 2000000 }) (disch := first | omega | rfl) only [thenC_ret, inBlock_ret]
          exact leave_one rfl (by simp only [Tr.get_put, Nat.reduceEqDiff, if_true, if_false]; rfl) ⟨by rw [fin], HX.refl hw⟩
        · by_cases h0 : c' < lo
          · have q1 : decide ((c' : Int) < (lo : Int)) = true := decide_eq_true (by omega)
            (repeat refine EvC.seq ?_); refine EvC.reg ?_; simp (config := { maxSteps := 2000000 }) (disch := first | omega | rfl) only [EL_cons, EL_nil, EL_guard, LX_val, LG_ft, LG_undef, dop_move, dop_pick, dPick_bool, dop_bin, dBin_lss, ev_const, ev_tmp, Tr.get_put, put_some, Nat.reduceEqDiff, Option.getD_some, if_true, if_false, thenC_normal, guardOf_eq, guardGet_some, List.getElem?_cons_succ, List.getElem?_cons_zero, e6, e7, q1]
            (repeat refine EvC.seq ?_); refine EvC.condT (by simp only [ev_tmp, Tr.get_put, Nat.reduceEqDiff, Option.getD_some, if_true, if_false]) ?_
            (repeat refine EvC.seq ?_); refine EvC.reg ?_; simp (config := { maxSteps := 2000000 }) (disch := first | omega | rfl) only [EL_cons, EL_nil, LX_val, dop_assign, ev_const, put_some, thenC_normal]
            refine EvC.ret ?_
            try simp (config := { maxSteps := 2000000 }) (disch := first | omega | rfl) only [thenC_ret, inBlock_ret]
            exact leave_one rfl (by simp only [Tr.get_put, Nat.reduceEqDiff, if_true, if_false]; rfl) ⟨by rw [fin], HX.refl hw⟩
          have q1 : decide ((c' : Int) < (lo : Int)) = false := decide_eq_false (by omega)
          by_cases h2 : 1114111 < c'
          · have q2 : decide ((c' : Int) > 1114111) = true := decide_eq_true (by omega)
            (repeat refine EvC.seq ?_); refine EvC.reg ?_; simp (config := { maxSteps := 2000000 }) (disch := first | omega | rfl) only [EL_cons, EL_nil, EL_guard, LX_val, LG_ff, LG_ft, LG_undef, dop_move, dop_pick, dPick_bool, dop_bin, dBin_lss, dBin_gtr, ev_const, ev_tmp, Tr.get_put, put_some, Nat.reduceEqDiff, Option.getD_some, if_true, if_false, thenC_normal, guardOf_eq, guardGet_some, List.getElem?_cons_succ, List.getElem?_cons_zero, e6, e7, q1, q2, Bool.false_eq_true]
            (repeat refine EvC.seq ?_); refine EvC.condT (by simp only [ev_tmp, Tr.get_put, Nat.reduceEqDiff, Option.getD_some, if_true, if_false]) ?_
            (repeat refine EvC.seq ?_); refine EvC.reg ?_; simp (config := { maxSteps := 2000000 }) (disch := first | omega | rfl) only [EL_cons, EL_nil, LX_val, dop_assign, ev_const, put_some, thenC_normal]
            refine EvC.ret ?_
            try simp (config := { maxSteps := 2000000 }) (disch := first | omega | rfl) only [thenC_ret, inBlock_ret]
            exact leave_one rfl (by simp only [Tr.get_put, Nat.reduceEqDiff, if_true, if_false]; rfl) ⟨by rw [fin], HX.refl hw⟩
          · have q2 : decide ((c' : Int) > 1114111) = false := decide_eq_false (by omega)
            have q3 : decide ((c' : Int) ≥ 55296) = true := decide_eq_true (by omega)
            have q4 : decide ((c' : Int) < 57344) = true := decide_eq_true (by omega)
            (repeat refine EvC.seq ?_); refine EvC.reg ?_; simp (config := { maxSteps := 2000000 }) (disch := first | omega | rfl) only [EL_cons, EL_nil, EL_guard, LX_val, LG_tt, LG_ff, dop_move, dop_pick, dPick_bool, dop_bin, dBin_lss, dBin_gtr, ev_const, ev_tmp, Tr.get_put, put_some, Nat.reduceEqDiff, Option.getD_some, if_true, if_false, thenC_normal, guardOf_eq, guardGet_some, List.getElem?_cons_succ, List.getElem?_cons_zero, dBin_geq, e6, e7, q1, q2, q3, q4, Bool.false_eq_true]
            (repeat refine EvC.seq ?_); refine EvC.condT (by simp only [ev_tmp, Tr.get_put, Nat.reduceEqDiff, Option.getD_some, if_true, if_false]) ?_
            (repeat refine EvC.seq ?_); refine EvC.reg ?_; simp (config := { maxSteps := 2000000 }) (disch := first | omega | rfl) only [EL_cons, EL_nil, LX_val, dop_assign, ev_const, put_some, thenC_normal]
            refine EvC.ret ?_
            try simp (config := { maxSteps := 2000000 }) (disch := first | omega | rfl) only [thenC_ret, inBlock_ret]
            exact leave_one rfl (by simp only [Tr.get_put, Nat.reduceEqDiff, if_true, if_false]; rfl) ⟨by rw [fin], HX.refl hw⟩
      · have hst : stepR (s[i] :: s.data.toList.drop (i + 1)) = some (n + 1) := by simp only [stepR, ← hm', hlead, hcont, if_neg hbad]
        have q1 : decide ((c' : Int) < (lo : Int)) = false := decide_eq_false (by omega)
        have q2 : decide ((c' : Int) > 1114111) = false := decide_eq_false (by omega)
        have nxt : utfR (s.size - (i + 1 + n)) (s.data.toList.drop (i + 1 + n)) = utfR s.size s.data.toList := by
          rw [← hc, hst]
          simp only [List.drop_succ_cons, List.drop_drop]
          rw [utfR_valid _ _ (by rw [List.length_drop, len_bytes]; omega), utfR_valid _ _ (by rw [List.length_drop, len_bytes]; omega)]
        by_cases h3 : 55296 ≤ c'
        · have q3 : decide ((c' : Int) ≥ 55296) = true := decide_eq_true (by omega)
          have q4 : decide ((c' : Int) < 57344) = false := decide_eq_false (by omega)
          (repeat refine EvC.seq ?_); refine EvC.reg ?_; simp (config := { maxSteps := 2000000 }) (disch := first | omega | rfl) only [EL_cons, EL_nil, EL_guard, LX_val, LG_tt, LG_ff, dop_move, dop_pick, dPick_bool, dop_bin, dBin_lss, dBin_gtr, ev_const, ev_tmp, Tr.get_put, put_some, Nat.reduceEqDiff, Option.getD_some, if_true, if_false, thenC_normal, guardOf_eq, guardGet_some, List.getElem?_cons_succ, List.getElem?_cons_zero, dBin_geq, e6, e7, q1, q2, q3, q4, Bool.false_eq_true]
          (repeat refine EvC.seq ?_); refine EvC.condF (by simp only [ev_tmp, Tr.get_put, Nat.reduceEqDiff, Option.getD_some, if_true, if_false]) (EvC.skip ?_)
          try simp (config := { maxSteps := 2000000 }) (disch := first | omega | rfl) only [thenC_normal]
          (repeat refine EvC.seq ?_); refine EvC.reg ?_; simp (config := { maxSteps := 2000000 }) (disch := first | omega | rfl) only [EL_cons, EL_nil, LX_val, dop_assign, dop_move, dop_bin, dBin_add, ev_const, ev_tmp, Tr.get_put, put_some, Nat.reduceEqDiff, Option.getD_some, if_true, if_false, thenC_normal, inBlock_normal, e3, e5, wrap_i64]
          exact ⟨s.size - (i + 1 + n), by omega, _, i + 1 + n, rfl, rfl, by omega, nxt, by simp only [Tr.get_put, reduceCtorEq, if_false]; exact e0, by simp only [Tr.get_put, Nat.reduceEqDiff, if_true, if_false]; exact congrArg (fun z => some (Value.int .i64 z)) (by omega)⟩
        · have q3 : decide ((c' : Int) ≥ 55296) = false := decide_eq_false (by omega)
          (repeat refine EvC.seq ?_); refine EvC.reg ?_; simp (config := { maxSteps := 2000000 }) (disch := first | omega | rfl) only [EL_cons, EL_nil, EL_guard, LX_val, LG_ff, LG_tf, dop_move, dop_pick, dPick_bool, dop_bin, dBin_lss, dBin_gtr, ev_const, ev_tmp, Tr.get_put, put_some, Nat.reduceEqDiff, Option.getD_some, if_true, if_false, thenC_normal, guardOf_eq, guardGet_some, List.getElem?_cons_succ, List.getElem?_cons_zero, dBin_geq, e6, e7, q1, q2, q3, Bool.false_eq_true]
          (repeat refine EvC.seq ?_); refine EvC.condF (by simp only [ev_tmp, Tr.get_put, Nat.reduceEqDiff, Option.getD_some, if_true, if_false]) (EvC.skip ?_)
          try simp (config := { maxSteps := 2000000 }) (disch := first | omega | rfl) only [thenC_normal]
          (repeat refine EvC.seq ?_); refine EvC.reg ?_; simp (config := { maxSteps := 2000000 }) (disch := first | omega | rfl) only [EL_cons, EL_nil, LX_val, dop_assign, dop_move, dop_bin, dBin_add, ev_const, ev_tmp, Tr.get_put, put_some, Nat.reduceEqDiff, Option.getD_some, if_true, if_false, thenC_normal, inBlock_normal, e3, e5, wrap_i64]
          exact ⟨s.size - (i + 1 + n), by omega, _, i + 1 + n, rfl, rfl, by omega, nxt, by simp only [Tr.get_put, reduceCtorEq, if_false]; exact e0, by simp only [Tr.get_put, Nat.reduceEqDiff, if_true, if_false]; exact congrArg (fun z => some (Value.int .i64 z)) (by omega)⟩
    · refine EvC.condF (by simp only [ev_tmp, Tr.get_put, Nat.reduceEqDiff, Option.getD_some, if_true, if_false]; exact congrArg _ (decide_eq_false (by omega))) (EvC.exit ?_)
      try simp (config := { maxSteps := 2000000 }) (disch := first | omega | rfl) only [if_true, thenC_normal, inBlock_exit, thenC_exit]
      (repeat refine EvC.seq ?_); refine EvC.reg ?_; simp (config := { maxSteps := 2000000 }) (disch := first | omega | rfl) only [EL_cons, EL_nil, LX_val, dop_assign, ev_const, put_some, thenC_normal]
      refine EvC.ret (leave_one rfl (by simp only [Tr.get_put, Nat.reduceEqDiff, if_true, if_false]; rfl) ⟨?_, HX.refl hw⟩)
      rw [← hc, show s.size - i = 0 by omega, utfR]
  · exact ⟨_, 0, rfl, by omega, by omega, rfl, by simp only [Tr.get_put, reduceCtorEq, if_true, if_false], by simp only [Tr.get_put, Nat.reduceEqDiff, reduceCtorEq, if_true, if_false]; rfl⟩
end Go.Proofs.YtlllbkjiadcloaaDoor.hb
end

-- Y9
section
/- Which texts are those of integers: the program's test and the reference's are one. -/
namespace Go.Proofs.YtlllbkjiadcloaaDoor.hb
open Go Go.RowKit Go.Hb
variable {ok : Ok}
set_option maxRecDepth 10000
attribute [local irreducible] LX LG EL STG SOP SGO SGD SAL SRD SEF SEG SLK SCK ES
def canonS (s : ByteArray) : Bool := match parseD (bl s) with | none => false | some n => textD (negS (bl s)) n == bl s
theorem parseD_lt {l : List Nat} {n : Nat} (h : parseD l = some n) : n < big := by
  unfold parseD at h
  split at h
  · cases h
  · split at h
    · cases h
    · exact numD_lt _ 0 n (by rw [big_eq]; exact Nat.two_pow_pos _) h
theorem toNat_inj : ∀ {a b : List UInt8}, a.map UInt8.toNat = b.map UInt8.toNat → a = b
  | [], [], _ => rfl
  | x :: a, y :: b, h => by
    simp only [List.map_cons, List.cons.injEq] at h
    rw [UInt8.toNat_inj.1 h.1, toNat_inj h.2]
  | [], _ :: _, h => by simp at h
  | _ :: _, [], h => by simp at h
theorem data_beq (t s : ByteArray) : (t.data.toList == s.data.toList) = (bl t == bl s) := by
  by_cases h : t.data.toList = s.data.toList
  · rw [beq_iff_eq.2 h, beq_iff_eq.2 (show bl t = bl s by unfold bl; rw [h])]
  · have h2 : bl t ≠ bl s := fun h3 => h (toNat_inj h3)
    rw [beq_eq_false_iff_ne.2 h, beq_eq_false_iff_ne.2 h2]

-- term.integer
theorem integer_ev : TellsS okT 102 canonS := by
  intro s H hs hw
  refine EvF.enter rfl Tryd.func102 (by decide) rfl ?_
  repeat' (first | refine EvC.seq ?_ | refine EvC.scope ?_ | refine EvC.block ?_ | (refine EvC.skip ?_) | (refine EvC.exit ?_) | (refine EvC.ret ?_; try simp only [thenC_ret, inBlock_ret]) | (refine EvC.reg ?_; simp (config := { maxSteps := 2000000 }) (disch := first | omega | rfl) only [initTm, EL_cons, EL_nil, LX_val, LX_call, dop_assign, dop_move, ev_const, ev_tmp, Tr.get_put, put_some, Nat.reduceEqDiff, Option.getD_some, reduceCtorEq, if_true, if_false, List.map_cons, List.map_nil, thenC_normal, dop_extract, cl124]))
  refine (parse_ev hs hw).mono ?_
  rintro v H1 ⟨hP, hx1⟩
  rcases hP with ⟨hnone, e, he, rfl⟩ | ⟨n, L, a, c, hsome, rfl, hr, hLb, hval, hlast, hlen⟩
  · have hx2 := (hx1.new (some (.row [.bool false, .slice none 0 0] 142))).put (i := H1.next) hx1.next (Nat.lt_succ_self _) (some (.row [.bool false, .slice none 0 0] 142))
    repeat' (first | refine EvC.seq ?_ | refine EvC.scope ?_ | refine EvC.block ?_ | (refine EvC.skip ?_) | (refine EvC.exit ?_) | (refine EvC.ret ?_; try simp only [thenC_ret, inBlock_ret]) | (refine EvC.reg ?_; simp (config := { maxSteps := 2000000 }) (disch := first | omega | rfl) only [EL_cons, EL_nil, LX_val, dop_assign, dop_move, dop_bin, ev_const, ev_tmp, Tr.get_put, put_some, Nat.reduceEqDiff, Option.getD_some, reduceCtorEq, if_true, if_false, thenC_normal, dBin_neq, ine_t]) | (refine LX_go ?_; simp (config := { maxSteps := 2000000 }) (disch := first | omega | rfl) only [EL_cons, EL_nil, LX_val, dop_assign, dop_store, dop_alloc, dAlloc, ev_tmp, Tr.get_put, put_some, put_none, Nat.reduceEqDiff, Option.getD_some, Nat.reduceAdd, Nat.zero_add, List.all_cons, List.all_nil, one, Bool.and_self, reduceCtorEq, if_true, if_false, get_new, List.drop_succ_cons, List.length_cons, List.length_nil, Nat.beq_refl, dStoreIf_true, dStoreB_row, splice_zero, List.append_nil, Nat.le_refl, and_self, List.drop_nil, dop_extract, dExt_0, dExt_1, zr142, st142]) | (refine EvC.condT ?_ ?_; simp (config := { maxSteps := 2000000 }) (disch := first | omega | rfl) only [ev_tmp, Tr.get_put, Nat.reduceEqDiff, Option.getD_some, reduceCtorEq, if_true, if_false]; refine EvC_go ?_))
    exact leave_one rfl (by first | (simp only [Tr.get_put, Nat.reduceEqDiff, reduceCtorEq, if_true, if_false, Option.some.injEq]; rfl) | simp only []) ⟨by unfold canonS; rw [hnone], hx2⟩
  · have hn : n < big := parseD_lt hsome
    have hx2 := ((HX.refl hx1.wf).new (some (.row [.bool false, .slice none 0 0] 142))).put (i := H1.next) (Nat.le_refl _) (Nat.lt_succ_self _) (some (.row [.bool (negS (bl s) && decide (0 < L.length)), .slice a L.length c] 142))
    repeat' (first | refine EvC.seq ?_ | refine EvC.scope ?_ | refine EvC.block ?_ | (refine EvC.skip ?_; try simp only [thenC_normal]) | (refine EvC.exit ?_) | (refine EvC.ret ?_; try simp only [thenC_ret, inBlock_ret]) | (refine EvC.reg ?_; simp (config := { maxSteps := 2000000 }) (disch := first | omega | rfl) only [EL_cons, EL_nil, LX_val, LX_call, dop_move, dop_load, dop_bin, ev_const, ev_tmp, Tr.get_put, put_some, Nat.reduceEqDiff, Option.getD_some, Nat.reduceAdd, Nat.zero_add, reduceCtorEq, if_true, if_false, load_new, load_put, cutC, dloadA_some, List.drop_zero, List.take_succ_cons, List.take_zero, List.length_cons, List.length_nil, Nat.beq_refl, List.map_cons, List.map_nil, thenC_normal, dBin_neq, dop_extract, ld142, cl125, ine_f]) | (refine LX_go ?_; simp (config := { maxSteps := 2000000 }) (disch := first | omega | rfl) only [EL_cons, EL_nil, LX_val, dop_assign, dop_store, dop_alloc, dAlloc, ev_tmp, Tr.get_put, put_some, put_none, Nat.reduceEqDiff, Option.getD_some, Nat.reduceAdd, Nat.zero_add, List.all_cons, List.all_nil, one, Bool.and_self, reduceCtorEq, if_true, if_false, get_new, List.drop_succ_cons, List.length_cons, List.length_nil, Nat.beq_refl, dStoreIf_true, dStoreB_row, splice_zero, List.append_nil, Nat.le_refl, and_self, List.drop_nil, dop_extract, dExt_0, dExt_1, zr142, st142]) | (refine EvC.condT ?_ ?_; simp (config := { maxSteps := 2000000 }) (disch := first | omega | rfl) only [ev_tmp, Tr.get_put, Nat.reduceEqDiff, Option.getD_some, reduceCtorEq, if_true, if_false]; refine EvC_go ?_) | (refine EvC.condF ?_ ?_; simp (config := { maxSteps := 2000000 }) (disch := first | omega | rfl) only [ev_tmp, Tr.get_put, Nat.reduceEqDiff, Option.getD_some, reduceCtorEq, if_true, if_false]; refine EvC_go ?_))
    refine (text_ev hx2.wf (hr.keep hx2 hx1.wf) hLb hlen hval hn).mono ?_
    rintro v H2 ⟨⟨t, rfl, ht⟩, hx3⟩
    have htx : textD (negS (bl s) && decide (0 < L.length)) n = textD (negS (bl s)) n := by
      by_cases h0 : 0 < L.length
      · simp [h0]
      · have : L = [] := List.length_eq_zero_iff.1 (by omega)
        subst this
        have : n = 0 := by rw [← hval]; rfl
        subst this; rfl
    rw [htx] at ht
    have heq : (t.data.toList == s.data.toList) = canonS s := by
      rw [data_beq, ht]
      unfold canonS; rw [hsome]
    repeat' (first | refine EvC.seq ?_ | refine EvC.scope ?_ | refine EvC.block ?_ | (refine EvC.skip ?_) | (refine EvC.exit ?_) | (refine EvC.ret ?_; try simp only [thenC_ret, inBlock_ret]) | (refine EvC.reg ?_; simp (config := { maxSteps := 2000000 }) (disch := first | omega | rfl) only [EL_cons, EL_nil, EL_guard, LX_val, LG_tt, dop_assign, dop_move, dop_pick, dPick_bool, dop_bin, ev_const, ev_tmp, Tr.get_put, put_some, Nat.reduceEqDiff, Option.getD_some, reduceCtorEq, if_true, if_false, thenC_normal, guardOf_eq, guardGet_some, List.getElem?_cons_succ, List.getElem?_cons_zero, dBin_eql, ieq_t, bEqS_data, heq]) | (refine LX_go ?_; simp (config := { maxSteps := 2000000 }) (disch := first | omega | rfl) only [EL_cons, EL_nil, LX_val, dop_assign, ev_tmp, Tr.get_put, put_some, Nat.reduceEqDiff, Option.getD_some, reduceCtorEq, if_true, if_false, dop_extract, dExt_0, dExt_1]))
    exact leave_one rfl (by first | (simp only [Tr.get_put, Nat.reduceEqDiff, reduceCtorEq, if_true, if_false]; rfl) | simp only [Tr.get_put, Nat.reduceEqDiff, reduceCtorEq, if_true, if_false]) ⟨rfl, (hx1.trans hx2).trans hx3⟩

-- hornbeamref02.canonical
theorem canonical_ev : TellsS okT 106 canonS := by
  intro s H hs hw
  refine EvF.enter rfl Tryd.func106 (by decide) rfl ?_
  repeat' (first | refine EvC.seq ?_ | refine EvC.scope ?_ | refine EvC.block ?_ | (refine EvC.skip ?_) | (refine EvC.exit ?_) | (refine EvC.ret ?_; try simp only [thenC_ret, inBlock_ret]) | (refine EvC.reg ?_; simp (config := { maxSteps := 2000000 }) (disch := first | omega | rfl) only [initTm, EL_cons, EL_nil, LX_val, LX_call, dop_assign, dop_move, ev_const, ev_tmp, Tr.get_put, put_some, Nat.reduceEqDiff, Option.getD_some, reduceCtorEq, if_true, if_false, List.map_cons, List.map_nil, thenC_normal, dop_extract, cl127]))
  refine (parseR_ev hs hw).mono ?_
  rintro v H1 ⟨hP, hx1⟩
  rcases hP with ⟨hnone, e, he, rfl⟩ | ⟨n, L, a, c, hsome, rfl, hr, hLb, hval, hlast, hlen⟩
  · have hx2 := (hx1.new (some (.row [.bool false, .slice none 0 0] 149))).put (i := H1.next) hx1.next (Nat.lt_succ_self _) (some (.row [.bool false, .slice none 0 0] 149))
    repeat' (first | refine EvC.seq ?_ | refine EvC.scope ?_ | refine EvC.block ?_ | (refine EvC.skip ?_) | (refine EvC.exit ?_) | (refine EvC.ret ?_; try simp only [thenC_ret, inBlock_ret]) | (refine EvC.reg ?_; simp (config := { maxSteps := 2000000 }) (disch := first | omega | rfl) only [EL_cons, EL_nil, LX_val, dop_assign, dop_move, dop_bin, ev_const, ev_tmp, Tr.get_put, put_some, Nat.reduceEqDiff, Option.getD_some, reduceCtorEq, if_true, if_false, thenC_normal, dBin_neq, ine_t]) | (refine LX_go ?_; simp (config := { maxSteps := 2000000 }) (disch := first | omega | rfl) only [EL_cons, EL_nil, LX_val, dop_assign, dop_store, dop_alloc, dAlloc, ev_tmp, Tr.get_put, put_some, put_none, Nat.reduceEqDiff, Option.getD_some, Nat.reduceAdd, Nat.zero_add, List.all_cons, List.all_nil, one, Bool.and_self, reduceCtorEq, if_true, if_false, get_new, List.drop_succ_cons, List.length_cons, List.length_nil, Nat.beq_refl, dStoreIf_true, dStoreB_row, splice_zero, List.append_nil, Nat.le_refl, and_self, List.drop_nil, dop_extract, dExt_0, dExt_1, zr149, st149]) | (refine EvC.condT ?_ ?_; simp (config := { maxSteps := 2000000 }) (disch := first | omega | rfl) only [ev_tmp, Tr.get_put, Nat.reduceEqDiff, Option.getD_some, reduceCtorEq, if_true, if_false]; refine EvC_go ?_))
    exact leave_one rfl (by first | (simp only [Tr.get_put, Nat.reduceEqDiff, reduceCtorEq, if_true, if_false, Option.some.injEq]; rfl) | simp only []) ⟨by unfold canonS; rw [hnone], hx2⟩
  · have hn : n < big := parseD_lt hsome
    have hx2 := ((HX.refl hx1.wf).new (some (.row [.bool false, .slice none 0 0] 149))).put (i := H1.next) (Nat.le_refl _) (Nat.lt_succ_self _) (some (.row [.bool (negS (bl s) && decide (0 < L.length)), .slice a L.length c] 149))
    repeat' (first | refine EvC.seq ?_ | refine EvC.scope ?_ | refine EvC.block ?_ | (refine EvC.skip ?_; try simp only [thenC_normal]) | (refine EvC.exit ?_) | (refine EvC.ret ?_; try simp only [thenC_ret, inBlock_ret]) | (refine EvC.reg ?_; simp (config := { maxSteps := 2000000 }) (disch := first | omega | rfl) only [EL_cons, EL_nil, LX_val, LX_call, dop_move, dop_load, dop_bin, ev_const, ev_tmp, Tr.get_put, put_some, Nat.reduceEqDiff, Option.getD_some, Nat.reduceAdd, Nat.zero_add, reduceCtorEq, if_true, if_false, load_new, load_put, cutC, dloadA_some, List.drop_zero, List.take_succ_cons, List.take_zero, List.length_cons, List.length_nil, Nat.beq_refl, List.map_cons, List.map_nil, thenC_normal, dBin_neq, ld149, cl128, ine_f]) | (refine LX_go ?_; simp (config := { maxSteps := 2000000 }) (disch := first | omega | rfl) only [EL_cons, EL_nil, LX_val, dop_assign, dop_store, dop_alloc, dAlloc, ev_tmp, Tr.get_put, put_some, put_none, Nat.reduceEqDiff, Option.getD_some, Nat.reduceAdd, Nat.zero_add, List.all_cons, List.all_nil, one, Bool.and_self, reduceCtorEq, if_true, if_false, get_new, List.drop_succ_cons, List.length_cons, List.length_nil, Nat.beq_refl, dStoreIf_true, dStoreB_row, splice_zero, List.append_nil, Nat.le_refl, and_self, List.drop_nil, dop_extract, dExt_0, dExt_1, zr149, st149]) | (refine EvC.condT ?_ ?_; simp (config := { maxSteps := 2000000 }) (disch := first | omega | rfl) only [ev_tmp, Tr.get_put, Nat.reduceEqDiff, Option.getD_some, reduceCtorEq, if_true, if_false]; refine EvC_go ?_) | (refine EvC.condF ?_ ?_; simp (config := { maxSteps := 2000000 }) (disch := first | omega | rfl) only [ev_tmp, Tr.get_put, Nat.reduceEqDiff, Option.getD_some, reduceCtorEq, if_true, if_false]; refine EvC_go ?_))
    refine (textR_ev hx2.wf (hr.keep hx2 hx1.wf) hLb hlen hlast hval hn).mono ?_
    rintro v H2 ⟨⟨t, rfl, ht⟩, hx3⟩
    have htx : textD (negS (bl s) && decide (0 < L.length)) n = textD (negS (bl s)) n := by
      by_cases h0 : 0 < L.length
      · simp [h0]
      · have : L = [] := List.length_eq_zero_iff.1 (by omega)
        subst this
        have : n = 0 := by rw [← hval]; rfl
        subst this; rfl
    rw [htx] at ht
    have heq : (t.data.toList == s.data.toList) = canonS s := by
      rw [data_beq, ht]
      unfold canonS; rw [hsome]
    repeat' (first | refine EvC.seq ?_ | refine EvC.scope ?_ | refine EvC.block ?_ | (refine EvC.skip ?_) | (refine EvC.exit ?_) | (refine EvC.ret ?_; try simp only [thenC_ret, inBlock_ret]) | (refine LX_go ?_; simp (config := { maxSteps := 2000000 }) (disch := first | omega | rfl) only [EL_cons, EL_nil, LX_val, dop_assign, ev_tmp, Tr.get_put, put_some, Nat.reduceEqDiff, Option.getD_some, reduceCtorEq, if_true, if_false, bEqS_data, heq]))
    exact leave_one rfl (by first | (simp only [Tr.get_put, Nat.reduceEqDiff, reduceCtorEq, if_true, if_false]; rfl) | simp only [Tr.get_put, Nat.reduceEqDiff, reduceCtorEq, if_true, if_false]) ⟨rfl, (hx1.trans hx2).trans hx3⟩

end Go.Proofs.YtlllbkjiadcloaaDoor.hb
end

-- Y10
section
/- Check, both sides: one. -/
namespace Go.Proofs.YtlllbkjiadcloaaDoor.hb
open Go Go.RowKit Go.Hb
variable {ok : Ok}
set_option maxRecDepth 10000
attribute [local irreducible] LX LG EL STG SOP SGO SGD SAL SRD SEF SEG SLK SCK ES
def utfS (s : ByteArray) : Bool := Lib.validD s.data.toList
def fltS (n : Int) : Bool := !(fnB n || fiB n || n == 9223372036854775808)
def nodeS : Tm → Int := nodeE utfS canonS fltS
theorem valid_tells : TellsS okT 101 utfS := fun _ _ hs hw => valid_ev (by decide) hw hs
theorem utf_tells : TellsS okT 105 utfS := fun s H hs hw => (utf_ref_ev (fun _ _ => rfl) (by decide) s H hs hw).mono fun v H' h => by
  have h' : v = .bool (utfR s.size s.data.toList) ∧ HX H H' := h
  rw [utfR_valid _ _ (by simp)] at h'; exact h'
theorem floats_tells : TellsU okT 107 fltS := fun n H hn hw => (floats_ev (fun _ _ => rfl) (by decide) n H hn hw).mono fun v H' h => by
  rw [floats_same n hn] at h; exact h
theorem nan_tells : TellsN okT 89 103 104 fnB fiB := fun n H hn hw => ⟨isnan_ev (fun _ _ => rfl) (by decide) n H hw, isinf_ev (fun f _ _ h => by rcases h with rfl | rfl <;> rfl) (by decide) (by decide) n H hw⟩
theorem node_tells : TellsT okT 84 nodeS := fun t cs H r hw => node_ev (fun _ _ => rfl) (by decide) (fun _ _ => rfl) (by decide) valid_tells integer_ev nan_tells r hw
theorem one_tells : TellsT okT 85 nodeS := fun t cs H r hw => one_ev (fun _ _ => rfl) (by decide) utf_tells canonical_ev floats_tells r hw
theorem nodes_tells : TellsT okT 13 fun t => cnt t 0 := fun t cs H r hw => nodes_ev (fun f _ _ h => by rcases h with rfl | rfl <;> rfl) (by decide) (by decide) r hw
theorem nodesR_tells : TellsT okT 14 fun t => cnt t 0 := fun t cs H r hw => nodes_ref_ev (fun f _ _ h => by rcases h with rfl | rfl <;> rfl) (by decide) (by decide) r hw
def checkS : Tm → Int := checkE nodeS
theorem check_tells : TellsT okT 15 checkS := check_ev nodes_tells (nodes_all_ev node_tells (fun _ _ => rfl) (by decide)) (fun _ _ => rfl) (by decide)
theorem checkR_tells : TellsT okT 16 checkS := ref_check_ev nodesR_tells (ref_all_ev one_tells (fun _ _ => rfl) (by decide)) (fun _ _ => rfl) (by decide)
end Go.Proofs.YtlllbkjiadcloaaDoor.hb
end

-- Z1
section
/- The orders: the small comparisons, on both sides. -/
namespace Go.Proofs.YtlllbkjiadcloaaDoor.hb
open Go Go.RowKit Go.Hb
variable {ok : Ok}
set_option maxRecDepth 10000
attribute [local irreducible] LX LG EL STG SOP SGO SGD SAL SRD SEF SEG SLK SCK ES

def cmpZ (a b : Int) : Int := if a < b then -1 else if b < a then 1 else 0
def lessS (a b : ByteArray) : Bool := Op.bytesLess a.toList b.toList
def cmpS (a b : ByteArray) : Int := if lessS a b then -1 else if lessS b a then 1 else 0
theorem less_total : ∀ {a b : List UInt8}, Op.bytesLess a b = false → (a == b) = false → Op.bytesLess b a = true
  | [], [], _, h => by simp at h
  | [], _ :: _, h, _ => by simp [Op.bytesLess] at h
  | _ :: _, [], _, _ => by simp [Op.bytesLess]
  | x :: a, y :: b, h, e => by
      simp only [Op.bytesLess] at h ⊢
      rw [Bool.or_eq_false_iff] at h
      have h1 : ¬ x < y := of_decide_eq_false h.1
      by_cases hxy : x = y
      · subst hxy
        have h2 : Op.bytesLess a b = false := by simpa using h.2
        have e2 : (a == b) = false := by simpa using e
        rw [less_total h2 e2]; simp
      · have h3 : y < x := by
          rw [UInt8.lt_iff_toNat_lt] at h1 ⊢
          have : x.toNat ≠ y.toNat := fun q => hxy (UInt8.toNat_inj.1 q)
          omega
        simp [h3]
def orZ (a b : Int) : Int := if a = 0 then b else a
theorem cmpZ_lt {a b : Int} (h : a < b) : cmpZ a b = -1 := by simp [cmpZ, h]
theorem cmpZ_gt {a b : Int} (h : b < a) : cmpZ a b = 1 := by
  have : ¬ a < b := by omega
  simp [cmpZ, h, this]
theorem cmpZ_eq {a b : Int} (h : a = b) : cmpZ a b = 0 := by subst h; simp [cmpZ]

theorem cmpS_lt {a b : ByteArray} (h : Op.bytesLess a.toList b.toList = true) : cmpS a b = -1 := by simp [cmpS, lessS, h]
theorem cmpS_eq {a b : ByteArray} (h : Op.bytesLess a.toList b.toList = false) (e : (a.toList == b.toList) = true) : cmpS a b = 0 := by
  have e' := beq_iff_eq.1 e
  rw [← e'] at h
  unfold cmpS lessS
  rw [← e', h]
  rfl
theorem cmpS_gt {a b : ByteArray} (h : Op.bytesLess a.toList b.toList = false) (e : (a.toList == b.toList) = false) : cmpS a b = 1 := by
  have := less_total h e
  unfold cmpS lessS
  rw [h, this]
  rfl

-- cmp.isNaN[int]
theorem nanI_ev {a : Int} {H : Heap} : EvF Tryd.prog okT 99 [.int .i64 a] H fun v H' => v = .bool false ∧ H' = H := by
  refine EvF.enter rfl Tryd.func99 (by decide) rfl ?_
  repeat' (first | refine EvC.seq ?_ | refine EvC.scope ?_ | refine EvC.block ?_ | (refine EvC.skip ?_) | (refine EvC.exit ?_) | (refine EvC.ret ?_; try simp only [thenC_ret, inBlock_ret]) | (refine EvC.reg ?_; simp (config := { maxSteps := 2000000 }) (disch := first | omega | rfl) only [initTm, EL_cons, EL_nil, LX_val, dop_assign, dop_move, dop_bin, ev_const, ev_tmp, Tr.get_put, put_some, Nat.reduceEqDiff, Option.getD_some, reduceCtorEq, if_true, if_false, thenC_normal, dBin_neq, ine_f]))
  exact leave_one rfl (by first | (simp only [Tr.get_put, Nat.reduceEqDiff, reduceCtorEq, if_true, if_false]; rfl) | simp only [Tr.get_put, Nat.reduceEqDiff, reduceCtorEq, if_true, if_false]) ⟨rfl, rfl⟩

-- cmp.Compare[int]
theorem cmpI_ev {a b : Int} {H : Heap} : EvF Tryd.prog okT 83 [.int .i64 a, .int .i64 b] H fun v H' => v = .int .i64 (cmpZ a b) ∧ H' = H := by
  refine EvF.enter rfl Tryd.func83 (by decide) rfl ?_
  repeat' (first | refine EvC.seq ?_ | refine EvC.scope ?_ | refine EvC.block ?_ | (refine EvC.skip ?_) | (refine EvC.exit ?_) | (refine EvC.ret ?_; try simp only [thenC_ret, inBlock_ret]) | (refine EvC.reg ?_; simp (config := { maxSteps := 2000000 }) (disch := first | omega | rfl) only [initTm, EL_cons, EL_nil, LX_val, LX_call, dop_assign, dop_move, ev_const, ev_tmp, Tr.get_put, put_some, Nat.reduceEqDiff, Option.getD_some, Nat.zero_add, reduceCtorEq, if_true, if_false, List.map_cons, List.map_nil, thenC_normal, cl99]))
  refine nanI_ev.mono ?_
  rintro v H1 ⟨rfl, rfl⟩
  repeat' (first | refine EvC.seq ?_ | refine EvC.scope ?_ | refine EvC.block ?_ | (refine EvC.skip ?_) | (refine EvC.exit ?_) | (refine EvC.ret ?_; try simp only [thenC_ret, inBlock_ret]) | (refine EvC.reg ?_; simp (config := { maxSteps := 2000000 }) (disch := first | omega | rfl) only [EL_cons, EL_nil, LX_val, LX_call, dop_assign, dop_move, ev_tmp, Tr.get_put, put_some, Nat.reduceEqDiff, Option.getD_some, reduceCtorEq, if_true, if_false, List.map_cons, List.map_nil, thenC_normal, cl99]))
  refine nanI_ev.mono ?_
  rintro v H2 ⟨rfl, rfl⟩
  by_cases h1 : a < b
  · repeat' (first | refine EvC.seq ?_ | refine EvC.scope ?_ | refine EvC.block ?_ | (refine EvC.skip ?_; try simp only [thenC_normal]) | (refine EvC.exit ?_) | (refine EvC.ret ?_; try simp only [thenC_ret, inBlock_ret]) | (refine EvC.reg ?_; simp (config := { maxSteps := 2000000 }) (disch := first | omega | rfl) only [EL_cons, EL_nil, LX_val, dop_assign, dop_move, dop_bin, dBin_lss, ev_const, ev_tmp, Tr.get_put, put_some, Nat.reduceEqDiff, Option.getD_some, reduceCtorEq, if_true, if_false, thenC_normal, decide_eq_true]) | (refine EvC.condT ?_ ?_; simp (config := { maxSteps := 2000000 }) (disch := first | omega | rfl) only [ev_tmp, Tr.get_put, Nat.reduceEqDiff, Option.getD_some, reduceCtorEq, if_true, if_false]; refine EvC_go ?_) | (refine EvC.condF ?_ ?_; simp (config := { maxSteps := 2000000 }) (disch := first | omega | rfl) only [ev_tmp, Tr.get_put, Nat.reduceEqDiff, Option.getD_some, reduceCtorEq, if_true, if_false]; refine EvC_go ?_))
    exact leave_one rfl (by first | (simp only [Tr.get_put, Nat.reduceEqDiff, reduceCtorEq, if_true, if_false, Option.some.injEq]; rfl) | simp only []) ⟨by rw [cmpZ_lt h1], rfl⟩
  · by_cases h2 : b < a
    · repeat' (first | refine EvC.seq ?_ | refine EvC.scope ?_ | refine EvC.block ?_ | (refine EvC.skip ?_; try simp only [thenC_normal]) | (refine EvC.exit ?_) | (refine EvC.ret ?_; try simp only [thenC_ret, inBlock_ret]) | (refine EvC.reg ?_; simp (config := { maxSteps := 2000000 }) (disch := first | omega | rfl) only [EL_cons, EL_nil, LX_val, dop_assign, dop_move, dop_bin, dBin_lss, dBin_gtr, ev_const, ev_tmp, Tr.get_put, put_some, Nat.reduceEqDiff, Option.getD_some, reduceCtorEq, if_true, if_false, thenC_normal, decide_eq_true, decide_eq_false]) | (refine EvC.condT ?_ ?_; simp (config := { maxSteps := 2000000 }) (disch := first | omega | rfl) only [ev_tmp, Tr.get_put, Nat.reduceEqDiff, Option.getD_some, reduceCtorEq, if_true, if_false]; refine EvC_go ?_) | (refine EvC.condF ?_ ?_; simp (config := { maxSteps := 2000000 }) (disch := first | omega | rfl) only [ev_tmp, Tr.get_put, Nat.reduceEqDiff, Option.getD_some, reduceCtorEq, if_true, if_false]; refine EvC_go ?_))
      exact leave_one rfl (by first | (simp only [Tr.get_put, Nat.reduceEqDiff, reduceCtorEq, if_true, if_false, Option.some.injEq]; rfl) | simp only []) ⟨by rw [cmpZ_gt h2], rfl⟩
    · repeat' (first | refine EvC.seq ?_ | refine EvC.scope ?_ | refine EvC.block ?_ | (refine EvC.skip ?_; try simp only [thenC_normal]) | (refine EvC.exit ?_) | (refine EvC.ret ?_; try simp only [thenC_ret, inBlock_ret]) | (refine EvC.reg ?_; simp (config := { maxSteps := 2000000 }) (disch := first | omega | rfl) only [EL_cons, EL_nil, LX_val, dop_assign, dop_move, dop_bin, dBin_lss, dBin_gtr, ev_const, ev_tmp, Tr.get_put, put_some, Nat.reduceEqDiff, Option.getD_some, reduceCtorEq, if_true, if_false, thenC_normal, decide_eq_false]) | (refine EvC.condT ?_ ?_; simp (config := { maxSteps := 2000000 }) (disch := first | omega | rfl) only [ev_tmp, Tr.get_put, Nat.reduceEqDiff, Option.getD_some, reduceCtorEq, if_true, if_false]; refine EvC_go ?_) | (refine EvC.condF ?_ ?_; simp (config := { maxSteps := 2000000 }) (disch := first | omega | rfl) only [ev_tmp, Tr.get_put, Nat.reduceEqDiff, Option.getD_some, reduceCtorEq, if_true, if_false]; refine EvC_go ?_))
      exact leave_one rfl (by first | (simp only [Tr.get_put, Nat.reduceEqDiff, reduceCtorEq, if_true, if_false, Option.some.injEq]; rfl) | simp only []) ⟨by rw [cmpZ_eq (by omega)], rfl⟩

-- cmp.isNaN[string]
theorem nanS_ev {a : ByteArray} {H : Heap} : EvF Tryd.prog okT 110 [.string a] H fun v H' => v = .bool false ∧ H' = H := by
  refine EvF.enter rfl Tryd.func110 (by decide) rfl ?_
  have e : (a.toList == a.toList) = true := beq_self_eq_true _
  repeat' (first | refine EvC.seq ?_ | refine EvC.scope ?_ | refine EvC.block ?_ | (refine EvC.skip ?_) | (refine EvC.exit ?_) | (refine EvC.ret ?_; try simp only [thenC_ret, inBlock_ret]) | (refine EvC.reg ?_; simp (config := { maxSteps := 2000000 }) (disch := first | omega | rfl) only [initTm, EL_cons, EL_nil, LX_val, dop_assign, dop_move, dop_bin, ev_const, ev_tmp, Tr.get_put, put_some, Nat.reduceEqDiff, Option.getD_some, reduceCtorEq, if_true, if_false, thenC_normal, dBin_neqS, e, Bool.not_true]))
  exact leave_one rfl (by first | (simp only [Tr.get_put, Nat.reduceEqDiff, reduceCtorEq, if_true, if_false]; rfl) | simp only [Tr.get_put, Nat.reduceEqDiff, reduceCtorEq, if_true, if_false]) ⟨rfl, rfl⟩

-- cmp.Compare[string]
theorem cmpS_ev {a b : ByteArray} {H : Heap} : EvF Tryd.prog okT 91 [.string a, .string b] H fun v H' => v = .int .i64 (cmpS a b) ∧ H' = H := by
  refine EvF.enter rfl Tryd.func91 (by decide) rfl ?_
  repeat' (first | refine EvC.seq ?_ | refine EvC.scope ?_ | refine EvC.block ?_ | (refine EvC.skip ?_) | (refine EvC.exit ?_) | (refine EvC.ret ?_; try simp only [thenC_ret, inBlock_ret]) | (refine EvC.reg ?_; simp (config := { maxSteps := 2000000 }) (disch := first | omega | rfl) only [initTm, EL_cons, EL_nil, LX_val, LX_call, dop_assign, dop_move, ev_const, ev_tmp, Tr.get_put, put_some, Nat.reduceEqDiff, Option.getD_some, Nat.zero_add, reduceCtorEq, if_true, if_false, List.map_cons, List.map_nil, thenC_normal, cl110]))
  refine nanS_ev.mono ?_
  rintro v H1 ⟨rfl, rfl⟩
  repeat' (first | refine EvC.seq ?_ | refine EvC.scope ?_ | refine EvC.block ?_ | (refine EvC.skip ?_) | (refine EvC.exit ?_) | (refine EvC.ret ?_; try simp only [thenC_ret, inBlock_ret]) | (refine EvC.reg ?_; simp (config := { maxSteps := 2000000 }) (disch := first | omega | rfl) only [EL_cons, EL_nil, LX_val, LX_call, dop_assign, dop_move, ev_tmp, Tr.get_put, put_some, Nat.reduceEqDiff, Option.getD_some, reduceCtorEq, if_true, if_false, List.map_cons, List.map_nil, thenC_normal, cl110]))
  refine nanS_ev.mono ?_
  rintro v H2 ⟨rfl, rfl⟩
  cases h1 : Op.bytesLess a.toList b.toList
  · cases h2 : a.toList == b.toList
    · repeat' (first | refine EvC.seq ?_ | refine EvC.scope ?_ | refine EvC.block ?_ | (refine EvC.skip ?_; try simp only [thenC_normal]) | (refine EvC.exit ?_) | (refine EvC.ret ?_; try simp only [thenC_ret, inBlock_ret]) | (refine EvC.reg ?_; simp (config := { maxSteps := 2000000 }) (disch := first | omega | rfl) only [EL_cons, EL_nil, LX_val, dop_assign, dop_move, dop_bin, ev_const, ev_tmp, Tr.get_put, put_some, Nat.reduceEqDiff, Option.getD_some, reduceCtorEq, if_true, if_false, thenC_normal, bLssS, bGtrS, h1, h2, Bool.or_self, Bool.not_false]) | (refine EvC.condT ?_ ?_; simp (config := { maxSteps := 2000000 }) (disch := first | omega | rfl) only [ev_tmp, Tr.get_put, Nat.reduceEqDiff, Option.getD_some, reduceCtorEq, if_true, if_false]; refine EvC_go ?_) | (refine EvC.condF ?_ ?_; simp (config := { maxSteps := 2000000 }) (disch := first | omega | rfl) only [ev_tmp, Tr.get_put, Nat.reduceEqDiff, Option.getD_some, reduceCtorEq, if_true, if_false]; refine EvC_go ?_))
      exact leave_one rfl (by first | (simp only [Tr.get_put, Nat.reduceEqDiff, reduceCtorEq, if_true, if_false, Option.some.injEq]; rfl) | simp only []) ⟨by rw [cmpS_gt h1 h2], rfl⟩
    · repeat' (first | refine EvC.seq ?_ | refine EvC.scope ?_ | refine EvC.block ?_ | (refine EvC.skip ?_; try simp only [thenC_normal]) | (refine EvC.exit ?_) | (refine EvC.ret ?_; try simp only [thenC_ret, inBlock_ret]) | (refine EvC.reg ?_; simp (config := { maxSteps := 2000000 }) (disch := first | omega | rfl) only [EL_cons, EL_nil, LX_val, dop_assign, dop_move, dop_bin, ev_const, ev_tmp, Tr.get_put, put_some, Nat.reduceEqDiff, Option.getD_some, reduceCtorEq, if_true, if_false, thenC_normal, bLssS, bGtrS, h1, h2, Bool.false_or, Bool.not_true]) | (refine EvC.condT ?_ ?_; simp (config := { maxSteps := 2000000 }) (disch := first | omega | rfl) only [ev_tmp, Tr.get_put, Nat.reduceEqDiff, Option.getD_some, reduceCtorEq, if_true, if_false]; refine EvC_go ?_) | (refine EvC.condF ?_ ?_; simp (config := { maxSteps := 2000000 }) (disch := first | omega | rfl) only [ev_tmp, Tr.get_put, Nat.reduceEqDiff, Option.getD_some, reduceCtorEq, if_true, if_false]; refine EvC_go ?_))
      exact leave_one rfl (by first | (simp only [Tr.get_put, Nat.reduceEqDiff, reduceCtorEq, if_true, if_false, Option.some.injEq]; rfl) | simp only []) ⟨by rw [cmpS_eq h1 h2], rfl⟩
  · repeat' (first | refine EvC.seq ?_ | refine EvC.scope ?_ | refine EvC.block ?_ | (refine EvC.skip ?_; try simp only [thenC_normal]) | (refine EvC.exit ?_) | (refine EvC.ret ?_; try simp only [thenC_ret, inBlock_ret]) | (refine EvC.reg ?_; simp (config := { maxSteps := 2000000 }) (disch := first | omega | rfl) only [EL_cons, EL_nil, LX_val, dop_assign, dop_move, dop_bin, ev_const, ev_tmp, Tr.get_put, put_some, Nat.reduceEqDiff, Option.getD_some, reduceCtorEq, if_true, if_false, thenC_normal, bLssS, h1]) | (refine EvC.condT ?_ ?_; simp (config := { maxSteps := 2000000 }) (disch := first | omega | rfl) only [ev_tmp, Tr.get_put, Nat.reduceEqDiff, Option.getD_some, reduceCtorEq, if_true, if_false]; refine EvC_go ?_) | (refine EvC.condF ?_ ?_; simp (config := { maxSteps := 2000000 }) (disch := first | omega | rfl) only [ev_tmp, Tr.get_put, Nat.reduceEqDiff, Option.getD_some, reduceCtorEq, if_true, if_false]; refine EvC_go ?_))
    exact leave_one rfl (by first | (simp only [Tr.get_put, Nat.reduceEqDiff, reduceCtorEq, if_true, if_false, Option.some.injEq]; rfl) | simp only []) ⟨by rw [cmpS_lt h1], rfl⟩

-- hornbeamref02.sign
theorem sign_ev {a b : Int} {H : Heap} : EvF Tryd.prog okT 55 [.int .i64 a, .int .i64 b] H fun v H' => v = .int .i64 (cmpZ a b) ∧ H' = H := by
  refine EvF.enter rfl Tryd.func55 (by decide) rfl ?_
  by_cases h1 : a < b
  · repeat' (first | refine EvC.seq ?_ | refine EvC.scope ?_ | refine EvC.block ?_ | (refine EvC.skip ?_) | (refine EvC.exit ?_) | (refine EvC.ret ?_; try simp only [thenC_ret, inBlock_ret]) | (refine EvC.reg ?_; simp (config := { maxSteps := 2000000 }) (disch := first | omega | rfl) only [initTm, EL_cons, EL_nil, LX_val, dop_assign, dop_move, dop_bin, dBin_lss, ev_const, ev_tmp, Tr.get_put, put_some, Nat.reduceEqDiff, Option.getD_some, Nat.zero_add, reduceCtorEq, if_true, if_false, thenC_normal, decide_eq_true]) | (refine EvC.condT ?_ ?_; simp (config := { maxSteps := 2000000 }) (disch := first | omega | rfl) only [ev_tmp, Tr.get_put, Nat.reduceEqDiff, Option.getD_some, reduceCtorEq, if_true, if_false]; refine EvC_go ?_))
    exact leave_one rfl (by first | (simp only [Tr.get_put, Nat.reduceEqDiff, reduceCtorEq, if_true, if_false, Option.some.injEq]; rfl) | simp only []) ⟨by rw [cmpZ_lt h1], rfl⟩
  · by_cases h2 : b < a
    · repeat' (first | refine EvC.seq ?_ | refine EvC.scope ?_ | refine EvC.block ?_ | (refine EvC.skip ?_; try simp only [thenC_normal]) | (refine EvC.exit ?_) | (refine EvC.ret ?_; try simp only [thenC_ret, inBlock_ret]) | (refine EvC.reg ?_; simp (config := { maxSteps := 2000000 }) (disch := first | omega | rfl) only [initTm, EL_cons, EL_nil, LX_val, dop_assign, dop_move, dop_bin, dBin_lss, dBin_gtr, ev_const, ev_tmp, Tr.get_put, put_some, Nat.reduceEqDiff, Option.getD_some, Nat.zero_add, reduceCtorEq, if_true, if_false, thenC_normal, decide_eq_true, decide_eq_false]) | (refine EvC.condT ?_ ?_; simp (config := { maxSteps := 2000000 }) (disch := first | omega | rfl) only [ev_tmp, Tr.get_put, Nat.reduceEqDiff, Option.getD_some, reduceCtorEq, if_true, if_false]; refine EvC_go ?_) | (refine EvC.condF ?_ ?_; simp (config := { maxSteps := 2000000 }) (disch := first | omega | rfl) only [ev_tmp, Tr.get_put, Nat.reduceEqDiff, Option.getD_some, reduceCtorEq, if_true, if_false]; refine EvC_go ?_))
      exact leave_one rfl (by first | (simp only [Tr.get_put, Nat.reduceEqDiff, reduceCtorEq, if_true, if_false, Option.some.injEq]; rfl) | simp only []) ⟨by rw [cmpZ_gt h2], rfl⟩
    · repeat' (first | refine EvC.seq ?_ | refine EvC.scope ?_ | refine EvC.block ?_ | (refine EvC.skip ?_; try simp only [thenC_normal]) | (refine EvC.exit ?_) | (refine EvC.ret ?_; try simp only [thenC_ret, inBlock_ret]) | (refine EvC.reg ?_; simp (config := { maxSteps := 2000000 }) (disch := first | omega | rfl) only [initTm, EL_cons, EL_nil, LX_val, dop_assign, dop_move, dop_bin, dBin_lss, dBin_gtr, ev_const, ev_tmp, Tr.get_put, put_some, Nat.reduceEqDiff, Option.getD_some, Nat.zero_add, reduceCtorEq, if_true, if_false, thenC_normal, decide_eq_false]) | (refine EvC.condT ?_ ?_; simp (config := { maxSteps := 2000000 }) (disch := first | omega | rfl) only [ev_tmp, Tr.get_put, Nat.reduceEqDiff, Option.getD_some, reduceCtorEq, if_true, if_false]; refine EvC_go ?_) | (refine EvC.condF ?_ ?_; simp (config := { maxSteps := 2000000 }) (disch := first | omega | rfl) only [ev_tmp, Tr.get_put, Nat.reduceEqDiff, Option.getD_some, reduceCtorEq, if_true, if_false]; refine EvC_go ?_))
      exact leave_one rfl (by first | (simp only [Tr.get_put, Nat.reduceEqDiff, reduceCtorEq, if_true, if_false, Option.some.injEq]; rfl) | simp only []) ⟨by rw [cmpZ_eq (by omega)], rfl⟩

end Go.Proofs.YtlllbkjiadcloaaDoor.hb
end

-- Z2
section
/- The orders: the first that is not 0, the places of kinds, a sign ahead. -/
namespace Go.Proofs.YtlllbkjiadcloaaDoor.hb
open Go Go.RowKit Go.Hb
variable {ok : Ok}
set_option maxRecDepth 10000
attribute [local irreducible] LX LG EL STG SOP SGO SGD SAL SRD SEF SEG SLK SCK ES

-- cmp.Or[int]
set_option maxHeartbeats 2000000 in
theorem or_ev {x y : Int} {c p : Nat} {H : Heap} (h0 : H.load ⟨p, 0, none⟩ 1 = some [.int .i64 x]) (h1 : H.load ⟨p, 1, none⟩ 1 = some [.int .i64 y]) :
    EvF Tryd.prog okT 90 [.slice (some ⟨p, 0, none⟩) 2 c] H fun v H' => v = .int .i64 (orZ x y) ∧ H' = H := by
  refine EvF.enter rfl Tryd.func90 (by decide) rfl ?_
  repeat' (first | refine EvC.seq ?_ | refine EvC.scope ?_ | refine EvC.block ?_ | (refine EvC.skip ?_) | (refine EvC.exit ?_) | (refine EvC.ret ?_; try simp only [thenC_ret, inBlock_ret]) | (refine EvC.reg ?_; simp (config := { maxSteps := 2000000 }) (disch := first | omega | rfl) only [initTm, EL_cons, EL_nil, LX_val, dop_assign, dop_move, ev_const, ev_tmp, Tr.get_put, put_some, Nat.reduceEqDiff, Option.getD_some, reduceCtorEq, if_true, if_false, thenC_normal, dop_len, ln46]))
  refine EvC.loop (fun k st => ∃ tm i, st = ⟨tm, [], H⟩ ∧ k = 2 - i ∧ i ≤ 2 ∧ (0 < i → x = 0) ∧ (1 < i → y = 0) ∧ tm.get 3 = some (.int .i64 0) ∧ tm.get 6 = some (.slice (some ⟨p, 0, none⟩) 2 c) ∧ tm.get 7 = some (.int .i64 (2 : Nat)) ∧ tm.get 8 = some (.int .i64 (i : Nat))) ?_ 2 _ ?_
  · rintro k st ⟨tm, i, rfl, rfl, hi, hx, hy, g3, g6, g7, g8⟩
    by_cases h2 : i = 2
    · subst h2
      repeat' (first | refine EvC.seq ?_ | refine EvC.scope ?_ | refine EvC.block ?_ | (refine EvC.skip ?_) | (refine EvC.exit ?_; try simp only [if_true, thenC_normal, inBlock_exit, thenC_exit]) | (refine EvC.ret ?_; try simp only [thenC_ret, inBlock_ret]) | (refine EvC.reg ?_; simp (config := { maxSteps := 2000000 }) (disch := first | omega | rfl) only [EL_cons, EL_nil, LX_val, dop_assign, dop_move, dop_bin, dBin_lss, ev_tmp, Tr.get_put, put_some, Nat.reduceEqDiff, Option.getD_some, if_true, if_false, thenC_normal, g3, g7, g8, decide_eq_false]) | (refine EvC.condT ?_ ?_; simp (config := { maxSteps := 2000000 }) (disch := first | omega | rfl) only [ev_tmp, Tr.get_put, Option.getD_some, if_true]; refine EvC_go ?_) | (refine EvC.condF ?_ ?_; simp (config := { maxSteps := 2000000 }) (disch := first | omega | rfl) only [ev_tmp, Tr.get_put, Option.getD_some, if_true]; refine EvC_go ?_))
      exact leave_one rfl (by first | (simp only [Tr.get_put, Nat.reduceEqDiff, if_true, if_false, Option.some.injEq]; rfl) | simp only []) ⟨by simp [orZ, hx, hy], rfl⟩
    · have hl : ∃ z, H.load ⟨p, i, none⟩ 1 = some [.int .i64 z] ∧ z = if i = 0 then x else y := by
        by_cases h0' : i = 0
        · subst h0'; exact ⟨x, h0, rfl⟩
        · have : i = 1 := by omega
          subst this; exact ⟨y, h1, rfl⟩
      obtain ⟨z, hl, hz⟩ := hl
      by_cases hz0 : z = 0
      · repeat' (first | refine EvC.seq ?_ | refine EvC.scope ?_ | refine EvC.block ?_ | (refine EvC.skip ?_; try simp only [thenC_normal, inBlock_normal]) | (refine EvC.exit ?_) | (refine EvC.ret ?_; try simp only [thenC_ret, inBlock_ret]) | (refine EvC.reg ?_; simp (config := { maxSteps := 2000000 }) (disch := first | omega | rfl) only [EL_cons, EL_nil, LX_val, dop_assign, dop_move, dop_load, dop_indexAddr, dop_bin, dBin_add, dBin_lss, ev_const, ev_tmp, Tr.get_put, put_some, Nat.reduceEqDiff, Option.getD_some, Nat.zero_add, if_true, if_false, dload1_some, thenC_normal, dBin_neq, Nat.mul_one, ia46, ld3, g3, g6, g7, g8, hl, ine_f hz0, decide_eq_true, wrap_i64]) | (refine EvC.condT ?_ ?_; simp (config := { maxSteps := 2000000 }) (disch := first | omega | rfl) only [ev_tmp, Tr.get_put, Nat.reduceEqDiff, Option.getD_some, if_true, if_false]; refine EvC_go ?_) | (refine EvC.condF ?_ ?_; simp (config := { maxSteps := 2000000 }) (disch := first | omega | rfl) only [ev_tmp, Tr.get_put, Nat.reduceEqDiff, Option.getD_some, if_true, if_false]; refine EvC_go ?_))
        exact ⟨2 - (i + 1), by omega, _, i + 1, rfl, rfl, by omega, fun _ => by
          by_cases h0' : i = 0
          · rw [hz, if_pos h0'] at hz0; exact hz0
          · exact hx (by omega), fun h => by
          rw [hz, if_neg (by omega)] at hz0; exact hz0, (by first | (simp only [Tr.get_put, Nat.reduceEqDiff, if_false, g3]; rfl) | simp only [Tr.get_put, Nat.reduceEqDiff, if_false, g3]), (by first | (simp only [Tr.get_put, Nat.reduceEqDiff, if_false, g6]; rfl) | simp only [Tr.get_put, Nat.reduceEqDiff, if_false, g6]), (by first | (simp only [Tr.get_put, Nat.reduceEqDiff, if_false, g7]; rfl) | simp only [Tr.get_put, Nat.reduceEqDiff, if_false, g7]), (by first | (simp only [Tr.get_put, Nat.reduceEqDiff, if_true, if_false, Option.some.injEq]; rfl) | simp only [])⟩
      · repeat' (first | refine EvC.seq ?_ | refine EvC.scope ?_ | refine EvC.block ?_ | (refine EvC.skip ?_; try simp only [thenC_normal]) | (refine EvC.exit ?_) | (refine EvC.ret ?_; try simp only [thenC_ret, inBlock_ret]) | (refine EvC.reg ?_; simp (config := { maxSteps := 2000000 }) (disch := first | omega | rfl) only [EL_cons, EL_nil, LX_val, dop_assign, dop_move, dop_load, dop_indexAddr, dop_bin, dBin_lss, ev_tmp, Tr.get_put, put_some, Nat.reduceEqDiff, Option.getD_some, Nat.zero_add, if_true, if_false, dload1_some, thenC_normal, dBin_neq, Nat.mul_one, ia46, ld3, g3, g6, g7, g8, hl, ine_t hz0, decide_eq_true]) | (refine EvC.condT ?_ ?_; simp (config := { maxSteps := 2000000 }) (disch := first | omega | rfl) only [ev_tmp, Tr.get_put, Nat.reduceEqDiff, Option.getD_some, if_true, if_false]; refine EvC_go ?_))
        refine leave_one rfl (by first | (simp only [Tr.get_put, Nat.reduceEqDiff, if_true, if_false, Option.some.injEq]; rfl) | simp only []) ⟨?_, rfl⟩
        by_cases h0' : i = 0
        · rw [if_pos h0'] at hz; subst hz; simp [orZ, hz0]
        · rw [if_neg h0'] at hz; subst hz; simp [orZ, hx (by omega)]
  · exact ⟨_, 0, rfl, rfl, by omega, by omega, by omega, (by first | (simp only [Tr.get_put, Nat.reduceEqDiff, reduceCtorEq, if_true, if_false]; rfl) | simp only [Tr.get_put, Nat.reduceEqDiff, reduceCtorEq, if_true, if_false]), (by first | (simp only [Tr.get_put, Nat.reduceEqDiff, reduceCtorEq, if_true, if_false]; rfl) | simp only [Tr.get_put, Nat.reduceEqDiff, reduceCtorEq, if_true, if_false]), (by first | (simp only [Tr.get_put, Nat.reduceEqDiff, reduceCtorEq, if_true, if_false]; rfl) | simp only [Tr.get_put, Nat.reduceEqDiff, reduceCtorEq, if_true, if_false]), (by first | (simp only [Tr.get_put, Nat.reduceEqDiff, reduceCtorEq, if_true, if_false, Option.some.injEq]; rfl) | simp only [])⟩

def rankZ (k : Int) : Int := if k = 1 then 0 else if k = 4 then 1 else if k = 3 then 2 else if k = 2 then 3 else 4
-- term.rank
theorem rank_ev {k : Int} {H : Heap} : EvF Tryd.prog okT 86 [.int .i64 k] H fun v H' => v = .int .i64 (rankZ k) ∧ H' = H := by
  refine EvF.enter rfl Tryd.func86 (by decide) rfl ?_
  by_cases h1 : k = 1
  · repeat' (first | refine EvC.seq ?_ | refine EvC.scope ?_ | refine EvC.block ?_ | (refine EvC.skip ?_) | (refine EvC.exit ?_) | (refine EvC.ret ?_; try simp only [thenC_ret, inBlock_ret]) | (refine EvC.reg ?_; simp (config := { maxSteps := 2000000 }) (disch := first | omega | rfl) only [initTm, EL_cons, EL_nil, LX_val, dop_assign, dop_move, dop_bin, ev_const, ev_tmp, Tr.get_put, put_some, Nat.reduceEqDiff, Option.getD_some, reduceCtorEq, if_true, if_false, thenC_normal, dBin_eql, ieq_t h1]) | (refine EvC.condT ?_ ?_; simp (config := { maxSteps := 2000000 }) (disch := first | omega | rfl) only [ev_tmp, Tr.get_put, Nat.reduceEqDiff, Option.getD_some, reduceCtorEq, if_true, if_false]; refine EvC_go ?_))
    exact leave_one rfl (by first | (simp only [Tr.get_put, Nat.reduceEqDiff, reduceCtorEq, if_true, if_false, Option.some.injEq]; rfl) | simp only []) ⟨by simp [rankZ, h1], rfl⟩
  by_cases h2 : k = 4
  · repeat' (first | refine EvC.seq ?_ | refine EvC.scope ?_ | refine EvC.block ?_ | (refine EvC.skip ?_) | (refine EvC.exit ?_) | (refine EvC.ret ?_; try simp only [thenC_ret, inBlock_ret]) | (refine EvC.reg ?_; simp (config := { maxSteps := 2000000 }) (disch := first | omega | rfl) only [initTm, EL_cons, EL_nil, LX_val, dop_assign, dop_move, dop_bin, ev_const, ev_tmp, Tr.get_put, put_some, Nat.reduceEqDiff, Option.getD_some, reduceCtorEq, if_true, if_false, thenC_normal, dBin_eql, ieq_f h1, ieq_t h2]) | (refine EvC.condT ?_ ?_; simp (config := { maxSteps := 2000000 }) (disch := first | omega | rfl) only [ev_tmp, Tr.get_put, Nat.reduceEqDiff, Option.getD_some, reduceCtorEq, if_true, if_false]; refine EvC_go ?_) | (refine EvC.condF ?_ ?_; simp (config := { maxSteps := 2000000 }) (disch := first | omega | rfl) only [ev_tmp, Tr.get_put, Nat.reduceEqDiff, Option.getD_some, reduceCtorEq, if_true, if_false]; refine EvC_go ?_))
    exact leave_one rfl (by first | (simp only [Tr.get_put, Nat.reduceEqDiff, reduceCtorEq, if_true, if_false, Option.some.injEq]; rfl) | simp only []) ⟨by simp [rankZ, h2], rfl⟩
  by_cases h3 : k = 3
  · repeat' (first | refine EvC.seq ?_ | refine EvC.scope ?_ | refine EvC.block ?_ | (refine EvC.skip ?_) | (refine EvC.exit ?_) | (refine EvC.ret ?_; try simp only [thenC_ret, inBlock_ret]) | (refine EvC.reg ?_; simp (config := { maxSteps := 2000000 }) (disch := first | omega | rfl) only [initTm, EL_cons, EL_nil, LX_val, dop_assign, dop_move, dop_bin, ev_const, ev_tmp, Tr.get_put, put_some, Nat.reduceEqDiff, Option.getD_some, reduceCtorEq, if_true, if_false, thenC_normal, dBin_eql, ieq_f h1, ieq_f h2, ieq_t h3]) | (refine EvC.condT ?_ ?_; simp (config := { maxSteps := 2000000 }) (disch := first | omega | rfl) only [ev_tmp, Tr.get_put, Nat.reduceEqDiff, Option.getD_some, reduceCtorEq, if_true, if_false]; refine EvC_go ?_) | (refine EvC.condF ?_ ?_; simp (config := { maxSteps := 2000000 }) (disch := first | omega | rfl) only [ev_tmp, Tr.get_put, Nat.reduceEqDiff, Option.getD_some, reduceCtorEq, if_true, if_false]; refine EvC_go ?_))
    exact leave_one rfl (by first | (simp only [Tr.get_put, Nat.reduceEqDiff, reduceCtorEq, if_true, if_false, Option.some.injEq]; rfl) | simp only []) ⟨by simp [rankZ, h3], rfl⟩
  by_cases h4 : k = 2
  · repeat' (first | refine EvC.seq ?_ | refine EvC.scope ?_ | refine EvC.block ?_ | (refine EvC.skip ?_) | (refine EvC.exit ?_) | (refine EvC.ret ?_; try simp only [thenC_ret, inBlock_ret]) | (refine EvC.reg ?_; simp (config := { maxSteps := 2000000 }) (disch := first | omega | rfl) only [initTm, EL_cons, EL_nil, LX_val, dop_assign, dop_move, dop_bin, ev_const, ev_tmp, Tr.get_put, put_some, Nat.reduceEqDiff, Option.getD_some, reduceCtorEq, if_true, if_false, thenC_normal, dBin_eql, ieq_f h1, ieq_f h2, ieq_f h3, ieq_t h4]) | (refine EvC.condT ?_ ?_; simp (config := { maxSteps := 2000000 }) (disch := first | omega | rfl) only [ev_tmp, Tr.get_put, Nat.reduceEqDiff, Option.getD_some, reduceCtorEq, if_true, if_false]; refine EvC_go ?_) | (refine EvC.condF ?_ ?_; simp (config := { maxSteps := 2000000 }) (disch := first | omega | rfl) only [ev_tmp, Tr.get_put, Nat.reduceEqDiff, Option.getD_some, reduceCtorEq, if_true, if_false]; refine EvC_go ?_))
    exact leave_one rfl (by first | (simp only [Tr.get_put, Nat.reduceEqDiff, reduceCtorEq, if_true, if_false, Option.some.injEq]; rfl) | simp only []) ⟨by simp [rankZ, h4], rfl⟩
  repeat' (first | refine EvC.seq ?_ | refine EvC.scope ?_ | refine EvC.block ?_ | (refine EvC.skip ?_; try simp only [thenC_normal, inBlock_normal]) | (refine EvC.exit ?_) | (refine EvC.ret ?_; try simp only [thenC_ret, inBlock_ret]) | (refine EvC.reg ?_; simp (config := { maxSteps := 2000000 }) (disch := first | omega | rfl) only [initTm, EL_cons, EL_nil, LX_val, dop_assign, dop_move, dop_bin, ev_const, ev_tmp, Tr.get_put, put_some, Nat.reduceEqDiff, Option.getD_some, reduceCtorEq, if_true, if_false, thenC_normal, dBin_eql, ieq_f h1, ieq_f h2, ieq_f h3, ieq_f h4]) | (refine EvC.condT ?_ ?_; simp (config := { maxSteps := 2000000 }) (disch := first | omega | rfl) only [ev_tmp, Tr.get_put, Nat.reduceEqDiff, Option.getD_some, reduceCtorEq, if_true, if_false]; refine EvC_go ?_) | (refine EvC.condF ?_ ?_; simp (config := { maxSteps := 2000000 }) (disch := first | omega | rfl) only [ev_tmp, Tr.get_put, Nat.reduceEqDiff, Option.getD_some, reduceCtorEq, if_true, if_false]; refine EvC_go ?_))
  exact leave_one rfl (by first | (simp only [Tr.get_put, Nat.reduceEqDiff, reduceCtorEq, if_true, if_false, Option.some.injEq]; rfl) | simp only []) ⟨by simp [rankZ, h1, h2, h3, h4], rfl⟩

-- hornbeamref02.rank
theorem rankR_ev {k : Int} {H : Heap} : EvF Tryd.prog okT 56 [.int .i64 k] H fun v H' => v = .int .i64 (rankZ k) ∧ H' = H := by
  refine EvF.enter rfl Tryd.func56 (by decide) rfl ?_
  by_cases h1 : k = 1
  · repeat' (first | refine EvC.seq ?_ | refine EvC.scope ?_ | refine EvC.block ?_ | (refine EvC.skip ?_) | (refine EvC.exit ?_) | (refine EvC.ret ?_; try simp only [thenC_ret, inBlock_ret]) | (refine EvC.reg ?_; simp (config := { maxSteps := 2000000 }) (disch := first | omega | rfl) only [initTm, EL_cons, EL_nil, LX_val, dop_assign, dop_move, dop_bin, ev_const, ev_tmp, Tr.get_put, put_some, Nat.reduceEqDiff, Option.getD_some, reduceCtorEq, if_true, if_false, thenC_normal, dBin_eql, ieq_t h1]) | (refine EvC.condT ?_ ?_; simp (config := { maxSteps := 2000000 }) (disch := first | omega | rfl) only [ev_tmp, Tr.get_put, Nat.reduceEqDiff, Option.getD_some, reduceCtorEq, if_true, if_false]; refine EvC_go ?_))
    exact leave_one rfl (by first | (simp only [Tr.get_put, Nat.reduceEqDiff, reduceCtorEq, if_true, if_false, Option.some.injEq]; rfl) | simp only []) ⟨by simp [rankZ, h1], rfl⟩
  by_cases h2 : k = 4
  · repeat' (first | refine EvC.seq ?_ | refine EvC.scope ?_ | refine EvC.block ?_ | (refine EvC.skip ?_) | (refine EvC.exit ?_) | (refine EvC.ret ?_; try simp only [thenC_ret, inBlock_ret]) | (refine EvC.reg ?_; simp (config := { maxSteps := 2000000 }) (disch := first | omega | rfl) only [initTm, EL_cons, EL_nil, LX_val, dop_assign, dop_move, dop_bin, ev_const, ev_tmp, Tr.get_put, put_some, Nat.reduceEqDiff, Option.getD_some, reduceCtorEq, if_true, if_false, thenC_normal, dBin_eql, ieq_f h1, ieq_t h2]) | (refine EvC.condT ?_ ?_; simp (config := { maxSteps := 2000000 }) (disch := first | omega | rfl) only [ev_tmp, Tr.get_put, Nat.reduceEqDiff, Option.getD_some, reduceCtorEq, if_true, if_false]; refine EvC_go ?_) | (refine EvC.condF ?_ ?_; simp (config := { maxSteps := 2000000 }) (disch := first | omega | rfl) only [ev_tmp, Tr.get_put, Nat.reduceEqDiff, Option.getD_some, reduceCtorEq, if_true, if_false]; refine EvC_go ?_))
    exact leave_one rfl (by first | (simp only [Tr.get_put, Nat.reduceEqDiff, reduceCtorEq, if_true, if_false, Option.some.injEq]; rfl) | simp only []) ⟨by simp [rankZ, h2], rfl⟩
  by_cases h3 : k = 3
  · repeat' (first | refine EvC.seq ?_ | refine EvC.scope ?_ | refine EvC.block ?_ | (refine EvC.skip ?_) | (refine EvC.exit ?_) | (refine EvC.ret ?_; try simp only [thenC_ret, inBlock_ret]) | (refine EvC.reg ?_; simp (config := { maxSteps := 2000000 }) (disch := first | omega | rfl) only [initTm, EL_cons, EL_nil, LX_val, dop_assign, dop_move, dop_bin, ev_const, ev_tmp, Tr.get_put, put_some, Nat.reduceEqDiff, Option.getD_some, reduceCtorEq, if_true, if_false, thenC_normal, dBin_eql, ieq_f h1, ieq_f h2, ieq_t h3]) | (refine EvC.condT ?_ ?_; simp (config := { maxSteps := 2000000 }) (disch := first | omega | rfl) only [ev_tmp, Tr.get_put, Nat.reduceEqDiff, Option.getD_some, reduceCtorEq, if_true, if_false]; refine EvC_go ?_) | (refine EvC.condF ?_ ?_; simp (config := { maxSteps := 2000000 }) (disch := first | omega | rfl) only [ev_tmp, Tr.get_put, Nat.reduceEqDiff, Option.getD_some, reduceCtorEq, if_true, if_false]; refine EvC_go ?_))
    exact leave_one rfl (by first | (simp only [Tr.get_put, Nat.reduceEqDiff, reduceCtorEq, if_true, if_false, Option.some.injEq]; rfl) | simp only []) ⟨by simp [rankZ, h3], rfl⟩
  by_cases h4 : k = 2
  · repeat' (first | refine EvC.seq ?_ | refine EvC.scope ?_ | refine EvC.block ?_ | (refine EvC.skip ?_) | (refine EvC.exit ?_) | (refine EvC.ret ?_; try simp only [thenC_ret, inBlock_ret]) | (refine EvC.reg ?_; simp (config := { maxSteps := 2000000 }) (disch := first | omega | rfl) only [initTm, EL_cons, EL_nil, LX_val, dop_assign, dop_move, dop_bin, ev_const, ev_tmp, Tr.get_put, put_some, Nat.reduceEqDiff, Option.getD_some, reduceCtorEq, if_true, if_false, thenC_normal, dBin_eql, ieq_f h1, ieq_f h2, ieq_f h3, ieq_t h4]) | (refine EvC.condT ?_ ?_; simp (config := { maxSteps := 2000000 }) (disch := first | omega | rfl) only [ev_tmp, Tr.get_put, Nat.reduceEqDiff, Option.getD_some, reduceCtorEq, if_true, if_false]; refine EvC_go ?_) | (refine EvC.condF ?_ ?_; simp (config := { maxSteps := 2000000 }) (disch := first | omega | rfl) only [ev_tmp, Tr.get_put, Nat.reduceEqDiff, Option.getD_some, reduceCtorEq, if_true, if_false]; refine EvC_go ?_))
    exact leave_one rfl (by first | (simp only [Tr.get_put, Nat.reduceEqDiff, reduceCtorEq, if_true, if_false, Option.some.injEq]; rfl) | simp only []) ⟨by simp [rankZ, h4], rfl⟩
  repeat' (first | refine EvC.seq ?_ | refine EvC.scope ?_ | refine EvC.block ?_ | (refine EvC.skip ?_; try simp only [thenC_normal, inBlock_normal]) | (refine EvC.exit ?_) | (refine EvC.ret ?_; try simp only [thenC_ret, inBlock_ret]) | (refine EvC.reg ?_; simp (config := { maxSteps := 2000000 }) (disch := first | omega | rfl) only [initTm, EL_cons, EL_nil, LX_val, dop_assign, dop_move, dop_bin, ev_const, ev_tmp, Tr.get_put, put_some, Nat.reduceEqDiff, Option.getD_some, reduceCtorEq, if_true, if_false, thenC_normal, dBin_eql, ieq_f h1, ieq_f h2, ieq_f h3, ieq_f h4]) | (refine EvC.condT ?_ ?_; simp (config := { maxSteps := 2000000 }) (disch := first | omega | rfl) only [ev_tmp, Tr.get_put, Nat.reduceEqDiff, Option.getD_some, reduceCtorEq, if_true, if_false]; refine EvC_go ?_) | (refine EvC.condF ?_ ?_; simp (config := { maxSteps := 2000000 }) (disch := first | omega | rfl) only [ev_tmp, Tr.get_put, Nat.reduceEqDiff, Option.getD_some, reduceCtorEq, if_true, if_false]; refine EvC_go ?_))
  exact leave_one rfl (by first | (simp only [Tr.get_put, Nat.reduceEqDiff, reduceCtorEq, if_true, if_false, Option.some.injEq]; rfl) | simp only []) ⟨by simp [rankZ, h1, h2, h3, h4], rfl⟩

-- hornbeamref02.texts
theorem texts_ev {a b : ByteArray} {H : Heap} : EvF Tryd.prog okT 59 [.string a, .string b] H fun v H' => v = .int .i64 (cmpS a b) ∧ H' = H := by
  refine EvF.enter rfl Tryd.func59 (by decide) rfl ?_
  cases h1 : Op.bytesLess a.toList b.toList
  · cases h2 : a.toList == b.toList
    · repeat' (first | refine EvC.seq ?_ | refine EvC.scope ?_ | refine EvC.block ?_ | (refine EvC.skip ?_; try simp only [thenC_normal]) | (refine EvC.exit ?_) | (refine EvC.ret ?_; try simp only [thenC_ret, inBlock_ret]) | (refine EvC.reg ?_; simp (config := { maxSteps := 2000000 }) (disch := first | omega | rfl) only [initTm, EL_cons, EL_nil, LX_val, dop_assign, dop_move, dop_bin, ev_const, ev_tmp, Tr.get_put, put_some, Nat.reduceEqDiff, Option.getD_some, Nat.zero_add, reduceCtorEq, if_true, if_false, thenC_normal, bLssS, bGtrS, h1, h2, Bool.or_self, Bool.not_false]) | (refine EvC.condT ?_ ?_; simp (config := { maxSteps := 2000000 }) (disch := first | omega | rfl) only [ev_tmp, Tr.get_put, Nat.reduceEqDiff, Option.getD_some, reduceCtorEq, if_true, if_false]; refine EvC_go ?_) | (refine EvC.condF ?_ ?_; simp (config := { maxSteps := 2000000 }) (disch := first | omega | rfl) only [ev_tmp, Tr.get_put, Nat.reduceEqDiff, Option.getD_some, reduceCtorEq, if_true, if_false]; refine EvC_go ?_))
      exact leave_one rfl (by first | (simp only [Tr.get_put, Nat.reduceEqDiff, reduceCtorEq, if_true, if_false, Option.some.injEq]; rfl) | simp only []) ⟨by rw [cmpS_gt h1 h2], rfl⟩
    · repeat' (first | refine EvC.seq ?_ | refine EvC.scope ?_ | refine EvC.block ?_ | (refine EvC.skip ?_; try simp only [thenC_normal]) | (refine EvC.exit ?_) | (refine EvC.ret ?_; try simp only [thenC_ret, inBlock_ret]) | (refine EvC.reg ?_; simp (config := { maxSteps := 2000000 }) (disch := first | omega | rfl) only [initTm, EL_cons, EL_nil, LX_val, dop_assign, dop_move, dop_bin, ev_const, ev_tmp, Tr.get_put, put_some, Nat.reduceEqDiff, Option.getD_some, Nat.zero_add, reduceCtorEq, if_true, if_false, thenC_normal, bLssS, bGtrS, h1, h2, Bool.false_or, Bool.not_true]) | (refine EvC.condT ?_ ?_; simp (config := { maxSteps := 2000000 }) (disch := first | omega | rfl) only [ev_tmp, Tr.get_put, Nat.reduceEqDiff, Option.getD_some, reduceCtorEq, if_true, if_false]; refine EvC_go ?_) | (refine EvC.condF ?_ ?_; simp (config := { maxSteps := 2000000 }) (disch := first | omega | rfl) only [ev_tmp, Tr.get_put, Nat.reduceEqDiff, Option.getD_some, reduceCtorEq, if_true, if_false]; refine EvC_go ?_))
      exact leave_one rfl (by first | (simp only [Tr.get_put, Nat.reduceEqDiff, reduceCtorEq, if_true, if_false, Option.some.injEq]; rfl) | simp only []) ⟨by rw [cmpS_eq h1 h2], rfl⟩
  · repeat' (first | refine EvC.seq ?_ | refine EvC.scope ?_ | refine EvC.block ?_ | (refine EvC.skip ?_) | (refine EvC.exit ?_) | (refine EvC.ret ?_; try simp only [thenC_ret, inBlock_ret]) | (refine EvC.reg ?_; simp (config := { maxSteps := 2000000 }) (disch := first | omega | rfl) only [initTm, EL_cons, EL_nil, LX_val, dop_assign, dop_move, dop_bin, ev_const, ev_tmp, Tr.get_put, put_some, Nat.reduceEqDiff, Option.getD_some, Nat.zero_add, reduceCtorEq, if_true, if_false, thenC_normal, bLssS, h1]) | (refine EvC.condT ?_ ?_; simp (config := { maxSteps := 2000000 }) (disch := first | omega | rfl) only [ev_tmp, Tr.get_put, Nat.reduceEqDiff, Option.getD_some, reduceCtorEq, if_true, if_false]; refine EvC_go ?_))
    exact leave_one rfl (by first | (simp only [Tr.get_put, Nat.reduceEqDiff, reduceCtorEq, if_true, if_false, Option.some.injEq]; rfl) | simp only []) ⟨by rw [cmpS_lt h1], rfl⟩

end Go.Proofs.YtlllbkjiadcloaaDoor.hb
end

-- Z3
section
/- The orders: integers by their digits, on both sides. -/
namespace Go.Proofs.YtlllbkjiadcloaaDoor.hb
open Go Go.RowKit Go.Hb
variable {ok : Ok}
set_option maxRecDepth 10000
attribute [local irreducible] LX LG EL STG SOP SGO SGD SAL SRD SEF SEG SLK SCK ES

def numZ (a b : ByteArray) : Int :=
  if negS (bl a) && !negS (bl b) then -1 else if negS (bl b) && !negS (bl a) then 1
  else if negS (bl a) then -(orZ (cmpZ a.size b.size) (cmpS a b)) else orZ (cmpZ a.size b.size) (cmpS a b)
theorem cmpZ_range (a b : Int) : -1 ≤ cmpZ a b ∧ cmpZ a b ≤ 1 := by
  unfold cmpZ; split
  · omega
  · split <;> omega
theorem cmpS_range (a b : ByteArray) : -1 ≤ cmpS a b ∧ cmpS a b ≤ 1 := by
  unfold cmpS; split
  · omega
  · split <;> omega
theorem orZ_range {x y : Int} (h : -1 ≤ x ∧ x ≤ 1) (h' : -1 ≤ y ∧ y ≤ 1) : -1 ≤ orZ x y ∧ orZ x y ≤ 1 := by
  unfold orZ; split <;> assumption
theorem neg_one {s : ByteArray} (h : 1 ≤ s.size) : ((s.extract 0 1).data.toList == (⟨#[45]⟩ : ByteArray).data.toList) = negS (bl s) := by
  rw [ByteArray.data_extract, Array.toList_extract, List.extract_eq_take_drop]
  unfold negS bl
  have hs : 1 ≤ s.data.toList.length := by simpa using h
  cases hh : s.data.toList with
  | nil => rw [hh] at hs; simp at hs
  | cons u l =>
    simp only [List.drop_zero, Nat.sub_zero, List.take_succ_cons, List.take_zero, List.map_cons, List.head?_cons]
    by_cases hu : u = 45
    · subst hu; rfl
    · have h1 : ([u] == ([45] : List UInt8)) = false := by simp [hu]
      have h2 : (some u.toNat == some 45) = false := by
        simp only [Option.some_beq_some]
        exact beq_eq_false_iff_ne.2 fun q => hu (UInt8.toNat_inj.1 q)
      exact h1.trans h2.symm
theorem neg_none {s : ByteArray} (h : s.size = 0) : negS (bl s) = false := by
  have : s.data.toList = [] := List.length_eq_zero_iff.1 (by simpa using h)
  unfold negS bl; rw [this]; rfl

-- stringslite.HasPrefix
theorem prefixL_ev {s : ByteArray} {H : Heap} (hs : s.size ≤ maxLen) : EvF Tryd.prog okT 129 [.string s, .string ⟨#[45]⟩] H fun v H' => v = .bool (negS (bl s)) ∧ H' = H := by
  have one : (⟨#[45]⟩ : ByteArray).size = 1 := rfl
  refine EvF.enter rfl Tryd.func129 (by decide) rfl ?_
  by_cases h : 1 ≤ s.size
  · have hsl : dSl Tryd.prog 9 (.string s) none (some (.int .i64 (1 : Nat))) none H = some (.val (.string (s.extract 0 1)) H) := dSl_str_hi (m := 1) us9 h
    repeat' (first | refine EvC.seq ?_ | refine EvC.scope ?_ | refine EvC.block ?_ | (refine EvC.skip ?_) | (refine EvC.exit ?_) | (refine EvC.ret ?_; try simp only [thenC_ret, inBlock_ret]) | (refine EvC.reg ?_; simp (config := { maxSteps := 2000000 }) (disch := first | omega | rfl) only [initTm, EL_cons, EL_nil, EL_guard, LX_val, LG_tt, dop_assign, dop_move, dop_pick, dPick_bool, dop_bin, ev_const, ev_tmp, Tr.get_put, put_some, Nat.reduceEqDiff, Option.getD_some, Nat.zero_add, reduceCtorEq, if_true, if_false, thenC_normal, guardOf_eq, guardGet_some, List.getElem?_cons_succ, List.getElem?_cons_zero, dBin_geq, dop_len, dop_slice, Option.map_some, Option.map_none, ln9, one, decide_eq_true, hsl, bEqS_data, neg_one h]))
    exact leave_one rfl (by first | (simp only [Tr.get_put, Nat.reduceEqDiff, reduceCtorEq, if_true, if_false]; rfl) | simp only [Tr.get_put, Nat.reduceEqDiff, reduceCtorEq, if_true, if_false]) ⟨rfl, rfl⟩
  · repeat' (first | refine EvC.seq ?_ | refine EvC.scope ?_ | refine EvC.block ?_ | (refine EvC.skip ?_) | (refine EvC.exit ?_) | (refine EvC.ret ?_; try simp only [thenC_ret, inBlock_ret]) | (refine EvC.reg ?_; simp (config := { maxSteps := 2000000 }) (disch := first | omega | rfl) only [initTm, EL_cons, EL_nil, EL_guard, LX_val, LG_tf, dop_assign, dop_move, dop_pick, dPick_bool, dop_bin, ev_const, ev_tmp, Tr.get_put, put_some, Nat.reduceEqDiff, Option.getD_some, Nat.zero_add, reduceCtorEq, if_true, if_false, thenC_normal, guardOf_eq, guardGet_some, List.getElem?_cons_succ, List.getElem?_cons_zero, dBin_geq, dop_len, ln9, one, decide_eq_false]))
    exact leave_one rfl (by first | (simp only [Tr.get_put, Nat.reduceEqDiff, reduceCtorEq, if_true, if_false, Option.some.injEq]; rfl) | simp only []) ⟨by rw [neg_none (by omega)], rfl⟩

-- strings.HasPrefix
theorem prefix_ev {s : ByteArray} {H : Heap} (hs : s.size ≤ maxLen) : EvF Tryd.prog okT 108 [.string s, .string ⟨#[45]⟩] H fun v H' => v = .bool (negS (bl s)) ∧ H' = H := by
  refine EvF.enter rfl Tryd.func108 (by decide) rfl ?_
  repeat' (first | refine EvC.seq ?_ | refine EvC.scope ?_ | refine EvC.block ?_ | (refine EvC.skip ?_) | (refine EvC.exit ?_) | (refine EvC.ret ?_; try simp only [thenC_ret, inBlock_ret]) | (refine EvC.reg ?_; simp (config := { maxSteps := 2000000 }) (disch := first | omega | rfl) only [initTm, EL_cons, EL_nil, LX_val, LX_call, dop_assign, dop_move, ev_const, ev_tmp, Tr.get_put, put_some, Nat.reduceEqDiff, Option.getD_some, Nat.zero_add, reduceCtorEq, if_true, if_false, List.map_cons, List.map_nil, thenC_normal, cl129]))
  refine (prefixL_ev hs).mono ?_
  rintro v H1 ⟨rfl, rfl⟩
  repeat' (first | refine EvC.seq ?_ | refine EvC.scope ?_ | refine EvC.block ?_ | (refine EvC.skip ?_) | (refine EvC.exit ?_) | (refine EvC.ret ?_; try simp only [thenC_ret, inBlock_ret]))
  exact leave_one rfl (by first | (simp only [Tr.get_put, Nat.reduceEqDiff, reduceCtorEq, if_true, if_false]; rfl) | simp only [Tr.get_put, Nat.reduceEqDiff, reduceCtorEq, if_true, if_false]) ⟨rfl, rfl⟩

end Go.Proofs.YtlllbkjiadcloaaDoor.hb
end

-- Z4
section
/- The orders: integers by their digits, the program's. -/
namespace Go.Proofs.YtlllbkjiadcloaaDoor.hb
open Go Go.RowKit Go.Hb
variable {ok : Ok}
set_option maxRecDepth 10000
attribute [local irreducible] LX LG EL STG SOP SGO SGD SAL SRD SEF SEG SLK SCK ES

theorem pair_load {x y : Value} {ty : TypeId} {H : Heap} : (H.new (some (Blk.row [x, y] ty))).load ⟨H.next, 0, none⟩ 1 = some [x] ∧ (H.new (some (Blk.row [x, y] ty))).load ⟨H.next, 1, none⟩ 1 = some [y] := by
  constructor <;> simp only [Heap.load, Heap.cells, Heap.get_new, if_pos] <;> rfl

-- term.numbers
set_option maxHeartbeats 2000000 in
theorem numbers_ev {a b : ByteArray} {H : Heap} (ha : a.size ≤ maxLen) (hb : b.size ≤ maxLen) (hw : H.wf) : EvF Tryd.prog okT 87 [.string a, .string b] H fun v H' => v = .int .i64 (numZ a b) ∧ HX H H' := by
  refine EvF.enter rfl Tryd.func87 (by decide) rfl ?_
  repeat' (first | refine EvC.seq ?_ | refine EvC.scope ?_ | refine EvC.block ?_ | (refine EvC.skip ?_) | (refine EvC.exit ?_) | (refine EvC.ret ?_; try simp only [thenC_ret, inBlock_ret]) | (refine EvC.reg ?_; simp (config := { maxSteps := 2000000 }) (disch := first | omega | rfl) only [initTm, EL_cons, EL_nil, LX_val, LX_call, dop_assign, dop_move, ev_const, ev_tmp, Tr.get_put, put_some, Nat.reduceEqDiff, Option.getD_some, Nat.zero_add, reduceCtorEq, if_true, if_false, List.map_cons, List.map_nil, thenC_normal, cl108]))
  refine (prefix_ev ha).mono ?_
  rintro v H1 ⟨rfl, rfl⟩
  repeat' (first | refine EvC.seq ?_ | refine EvC.scope ?_ | refine EvC.block ?_ | (refine EvC.skip ?_) | (refine EvC.exit ?_) | (refine EvC.ret ?_; try simp only [thenC_ret, inBlock_ret]))
  refine (prefix_ev hb).mono ?_
  rintro v H2 ⟨rfl, rfl⟩
  have hr := orZ_range (cmpZ_range a.size b.size) (cmpS_range a b)
  cases hx : negS (bl a) <;> cases hy : negS (bl b)
  · repeat' (first | refine EvC.seq ?_ | refine EvC.scope ?_ | refine EvC.block ?_ | (refine EvC.skip ?_; try simp only [thenC_normal, inBlock_normal]) | (refine EvC.exit ?_) | (refine EvC.ret ?_; try simp only [thenC_ret, inBlock_ret]) | (refine EvC.reg ?_; simp (config := { maxSteps := 2000000 }) (disch := first | omega | rfl) only [EL_cons, EL_nil, EL_guard, LX_val, LX_call, LG_tf, dop_assign, dop_move, dop_pick, dPick_bool, ev_const, ev_tmp, Tr.get_put, put_some, Nat.reduceEqDiff, Option.getD_some, Nat.reduceAdd, Nat.zero_add, Value.cells, List.all_cons, List.all_nil, reduceCtorEq, if_true, if_false, List.length_cons, List.length_nil, List.map_cons, List.map_nil, splice_zero, thenC_normal, guardOf_eq, guardGet_some, List.getElem?_cons_succ, List.getElem?_cons_zero, dop_len, layC, dop_buildSlice, ln9, cl83, cl91, bs46_2, Bool.false_eq_true]) | (refine EvC.condT ?_ ?_; simp (config := { maxSteps := 2000000 }) (disch := first | omega | rfl) only [ev_tmp, Tr.get_put, Nat.reduceEqDiff, Option.getD_some, reduceCtorEq, if_true, if_false]; refine EvC_go ?_) | (refine EvC.condF ?_ ?_; simp (config := { maxSteps := 2000000 }) (disch := first | omega | rfl) only [ev_tmp, Tr.get_put, Nat.reduceEqDiff, Option.getD_some, reduceCtorEq, if_true, if_false]; refine EvC_go ?_))
    refine cmpI_ev.mono ?_
    rintro v H1 ⟨rfl, rfl⟩
    repeat' (first | refine EvC.seq ?_ | refine EvC.scope ?_ | refine EvC.block ?_ | (refine EvC.skip ?_) | (refine EvC.exit ?_) | (refine EvC.ret ?_; try simp only [thenC_ret, inBlock_ret]))
    refine cmpS_ev.mono ?_
    rintro v H1 ⟨rfl, rfl⟩
    repeat' (first | refine EvC.seq ?_ | refine EvC.scope ?_ | refine EvC.block ?_ | (refine EvC.skip ?_) | (refine EvC.exit ?_) | (refine EvC.ret ?_; try simp only [thenC_ret, inBlock_ret]) | (refine LX_go ?_; simp (config := { maxSteps := 2000000 }) (disch := first | omega | rfl) only [EL_cons, EL_nil, LX_val, LX_call, dop_assign, ev_tmp, Tr.get_put, put_some, Nat.reduceEqDiff, Option.getD_some, Nat.reduceAdd, Nat.zero_add, List.all_cons, List.all_nil, one, Bool.and_self, reduceCtorEq, if_true, if_false, List.drop_succ_cons, List.drop_zero, List.length_cons, List.length_nil, List.map_cons, List.map_nil, splice_zero, splice_succ, List.cons_append, List.nil_append, List.append_nil, Nat.reduceLeDiff, Nat.le_refl, and_self, List.drop_nil, dBs_true, cl90]))
    refine (or_ev pair_load.1 pair_load.2).mono ?_
    rintro v H3 ⟨rfl, rfl⟩
    repeat' (first | refine EvC.seq ?_ | refine EvC.scope ?_ | refine EvC.block ?_ | (refine EvC.skip ?_; try simp only [thenC_normal]) | (refine EvC.exit ?_) | (refine EvC.ret ?_; try simp only [thenC_ret, inBlock_ret]) | (refine EvC.reg ?_; simp (config := { maxSteps := 2000000 }) (disch := first | omega | rfl) only [EL_cons, EL_nil, LX_val, dop_assign, dop_move, ev_tmp, Tr.get_put, put_some, Nat.reduceEqDiff, Option.getD_some, reduceCtorEq, if_true, if_false, thenC_normal]) | (refine EvC.condT ?_ ?_; simp (config := { maxSteps := 2000000 }) (disch := first | omega | rfl) only [ev_tmp, Tr.get_put, Nat.reduceEqDiff, Option.getD_some, reduceCtorEq, if_true, if_false]; refine EvC_go ?_) | (refine EvC.condF ?_ ?_; simp (config := { maxSteps := 2000000 }) (disch := first | omega | rfl) only [ev_tmp, Tr.get_put, Nat.reduceEqDiff, Option.getD_some, reduceCtorEq, if_true, if_false]; refine EvC_go ?_))
    exact leave_one rfl (by first | (simp only [Tr.get_put, Nat.reduceEqDiff, reduceCtorEq, if_true, if_false, Option.some.injEq]; rfl) | simp only []) ⟨by simp [numZ, hx, hy], (HX.refl hw).new _⟩
  · repeat' (first | refine EvC.seq ?_ | refine EvC.scope ?_ | refine EvC.block ?_ | (refine EvC.skip ?_) | (refine EvC.exit ?_) | (refine EvC.ret ?_; try simp only [thenC_ret, inBlock_ret]) | (refine EvC.reg ?_; simp (config := { maxSteps := 2000000 }) (disch := first | omega | rfl) only [EL_cons, EL_nil, EL_guard, LX_val, LG_tt, LG_tf, dop_assign, dop_move, dop_pick, dPick_bool, ev_const, ev_tmp, Tr.get_put, put_some, Nat.reduceEqDiff, Option.getD_some, reduceCtorEq, if_true, if_false, thenC_normal, guardOf_eq, guardGet_some, List.getElem?_cons_succ, List.getElem?_cons_zero, dop_un, un_not, Bool.not_false, Bool.false_eq_true]) | (refine EvC.condT ?_ ?_; simp (config := { maxSteps := 2000000 }) (disch := first | omega | rfl) only [ev_tmp, Tr.get_put, Nat.reduceEqDiff, Option.getD_some, reduceCtorEq, if_true, if_false]; refine EvC_go ?_) | (refine EvC.condF ?_ ?_; simp (config := { maxSteps := 2000000 }) (disch := first | omega | rfl) only [ev_tmp, Tr.get_put, Nat.reduceEqDiff, Option.getD_some, reduceCtorEq, if_true, if_false]; refine EvC_go ?_))
    exact leave_one rfl (by first | (simp only [Tr.get_put, Nat.reduceEqDiff, reduceCtorEq, if_true, if_false, Option.some.injEq]; rfl) | simp only []) ⟨by simp [numZ, hx, hy], HX.refl hw⟩
  · repeat' (first | refine EvC.seq ?_ | refine EvC.scope ?_ | refine EvC.block ?_ | (refine EvC.skip ?_) | (refine EvC.exit ?_) | (refine EvC.ret ?_; try simp only [thenC_ret, inBlock_ret]) | (refine EvC.reg ?_; simp (config := { maxSteps := 2000000 }) (disch := first | omega | rfl) only [EL_cons, EL_nil, EL_guard, LX_val, LG_tt, dop_assign, dop_move, dop_pick, dPick_bool, ev_const, ev_tmp, Tr.get_put, put_some, Nat.reduceEqDiff, Option.getD_some, reduceCtorEq, if_true, if_false, thenC_normal, guardOf_eq, guardGet_some, List.getElem?_cons_succ, List.getElem?_cons_zero, dop_un, un_not, Bool.not_false]) | (refine EvC.condT ?_ ?_; simp (config := { maxSteps := 2000000 }) (disch := first | omega | rfl) only [ev_tmp, Tr.get_put, Nat.reduceEqDiff, Option.getD_some, reduceCtorEq, if_true, if_false]; refine EvC_go ?_))
    exact leave_one rfl (by first | (simp only [Tr.get_put, Nat.reduceEqDiff, reduceCtorEq, if_true, if_false, Option.some.injEq]; rfl) | simp only []) ⟨by simp [numZ, hx, hy], HX.refl hw⟩
  · repeat' (first | refine EvC.seq ?_ | refine EvC.scope ?_ | refine EvC.block ?_ | (refine EvC.skip ?_; try simp only [thenC_normal, inBlock_normal]) | (refine EvC.exit ?_) | (refine EvC.ret ?_; try simp only [thenC_ret, inBlock_ret]) | (refine EvC.reg ?_; simp (config := { maxSteps := 2000000 }) (disch := first | omega | rfl) only [EL_cons, EL_nil, EL_guard, LX_val, LX_call, LG_tt, dop_assign, dop_move, dop_pick, dPick_bool, ev_const, ev_tmp, Tr.get_put, put_some, Nat.reduceEqDiff, Option.getD_some, Nat.reduceAdd, Nat.zero_add, Value.cells, List.all_cons, List.all_nil, reduceCtorEq, if_true, if_false, List.length_cons, List.length_nil, List.map_cons, List.map_nil, splice_zero, thenC_normal, guardOf_eq, guardGet_some, List.getElem?_cons_succ, List.getElem?_cons_zero, dop_un, un_not, dop_len, layC, dop_buildSlice, ln9, cl83, cl91, bs46_2, Bool.not_true]) | (refine EvC.condT ?_ ?_; simp (config := { maxSteps := 2000000 }) (disch := first | omega | rfl) only [ev_tmp, Tr.get_put, Nat.reduceEqDiff, Option.getD_some, reduceCtorEq, if_true, if_false]; refine EvC_go ?_) | (refine EvC.condF ?_ ?_; simp (config := { maxSteps := 2000000 }) (disch := first | omega | rfl) only [ev_tmp, Tr.get_put, Nat.reduceEqDiff, Option.getD_some, reduceCtorEq, if_true, if_false]; refine EvC_go ?_))
    refine cmpI_ev.mono ?_
    rintro v H1 ⟨rfl, rfl⟩
    repeat' (first | refine EvC.seq ?_ | refine EvC.scope ?_ | refine EvC.block ?_ | (refine EvC.skip ?_) | (refine EvC.exit ?_) | (refine EvC.ret ?_; try simp only [thenC_ret, inBlock_ret]))
    refine cmpS_ev.mono ?_
    rintro v H1 ⟨rfl, rfl⟩
    repeat' (first | refine EvC.seq ?_ | refine EvC.scope ?_ | refine EvC.block ?_ | (refine EvC.skip ?_) | (refine EvC.exit ?_) | (refine EvC.ret ?_; try simp only [thenC_ret, inBlock_ret]) | (refine LX_go ?_; simp (config := { maxSteps := 2000000 }) (disch := first | omega | rfl) only [EL_cons, EL_nil, LX_val, LX_call, dop_assign, ev_tmp, Tr.get_put, put_some, Nat.reduceEqDiff, Option.getD_some, Nat.reduceAdd, Nat.zero_add, List.all_cons, List.all_nil, one, Bool.and_self, reduceCtorEq, if_true, if_false, List.drop_succ_cons, List.drop_zero, List.length_cons, List.length_nil, List.map_cons, List.map_nil, splice_zero, splice_succ, List.cons_append, List.nil_append, List.append_nil, Nat.reduceLeDiff, Nat.le_refl, and_self, List.drop_nil, dBs_true, cl90]))
    refine (or_ev pair_load.1 pair_load.2).mono ?_
    rintro v H3 ⟨rfl, rfl⟩
    repeat' (first | refine EvC.seq ?_ | refine EvC.scope ?_ | refine EvC.block ?_ | (refine EvC.skip ?_) | (refine EvC.exit ?_) | (refine EvC.ret ?_; try simp only [thenC_ret, inBlock_ret]) | (refine EvC.reg ?_; simp (config := { maxSteps := 2000000 }) (disch := first | omega | rfl) only [EL_cons, EL_nil, LX_val, dop_assign, dop_move, ev_tmp, Tr.get_put, put_some, Nat.reduceEqDiff, Option.getD_some, reduceCtorEq, if_true, if_false, thenC_normal, dop_un, bNegI, wrap_i64]) | (refine EvC.condT ?_ ?_; simp (config := { maxSteps := 2000000 }) (disch := first | omega | rfl) only [ev_tmp, Tr.get_put, Nat.reduceEqDiff, Option.getD_some, reduceCtorEq, if_true, if_false]; refine EvC_go ?_))
    exact leave_one rfl (by first | (simp only [Tr.get_put, Nat.reduceEqDiff, reduceCtorEq, if_true, if_false, Option.some.injEq]; rfl) | simp only []) ⟨by simp [numZ, hx, hy], (HX.refl hw).new _⟩

end Go.Proofs.YtlllbkjiadcloaaDoor.hb
end

-- Z5
section
/- The orders: integers by their digits, the reference's. -/
namespace Go.Proofs.YtlllbkjiadcloaaDoor.hb
open Go Go.RowKit Go.Hb
variable {ok : Ok}
set_option maxRecDepth 10000
attribute [local irreducible] LX LG EL STG SOP SGO SGD SAL SRD SEF SEG SLK SCK ES

theorem negS_byte {s : ByteArray} (h : 1 ≤ s.size) : negS (bl s) = decide (byteAt s 0 = 45) := by
  have := bl_get s (i := 0) (by omega)
  unfold negS
  rw [List.head?_eq_getElem?, this]
  by_cases e : byteAt s 0 = 45 <;> simp [e]

-- hornbeamref02.Ints
set_option maxHeartbeats 2000000 in
theorem ints_ev {a b : ByteArray} {H : Heap} (ha : a.size ≤ maxLen) (hb : b.size ≤ maxLen) (ha1 : 1 ≤ a.size) (hb1 : 1 ≤ b.size) : EvF Tryd.prog okT 57 [.string a, .string b] H fun v H' => v = .int .i64 (numZ a b) ∧ H' = H := by
  have n1 : (true != true) = false := rfl
  have n2 : (true != false) = true := rfl
  have n3 : (false != true) = true := rfl
  have n4 : (false != false) = false := rfl
  have hr := orZ_range (cmpZ_range a.size b.size) (cmpS_range a b)
  have hx := negS_byte ha1
  have hy := negS_byte hb1
  refine EvF.enter rfl Tryd.func57 (by decide) rfl ?_
  by_cases h1 : byteAt a 0 = 45 <;> by_cases h2 : byteAt b 0 = 45
  · rw [decide_eq_true h1] at hx; rw [decide_eq_true h2] at hy
    repeat' (first | refine EvC.seq ?_ | refine EvC.scope ?_ | refine EvC.block ?_ | (refine EvC.skip ?_; try simp only [thenC_normal]) | (refine EvC.exit ?_) | (refine EvC.ret ?_; try simp only [thenC_ret, inBlock_ret]) | (refine EvC.reg ?_; simp (config := { maxSteps := 2000000 }) (disch := first | omega | rfl) only [initTm, EL_cons, EL_nil, LX_val, LX_call, dop_assign, dop_move, dop_bin, ev_const, ev_tmp, Tr.get_put, put_some, Nat.reduceEqDiff, Option.getD_some, Nat.zero_add, reduceCtorEq, if_true, if_false, List.map_cons, List.map_nil, thenC_normal, dBin_eql, dop_len, dop_index, Int.reduceToNat, ln9, cl55, iy9, ieq_t, bNeB Tryd.underlying4, n1]) | (refine EvC.condT ?_ ?_; simp (config := { maxSteps := 2000000 }) (disch := first | omega | rfl) only [ev_tmp, Tr.get_put, Nat.reduceEqDiff, Option.getD_some, reduceCtorEq, if_true, if_false]; refine EvC_go ?_) | (refine EvC.condF ?_ ?_; simp (config := { maxSteps := 2000000 }) (disch := first | omega | rfl) only [ev_tmp, Tr.get_put, Nat.reduceEqDiff, Option.getD_some, reduceCtorEq, if_true, if_false]; refine EvC_go ?_))
    refine sign_ev.mono ?_
    rintro v H1 ⟨rfl, rfl⟩
    by_cases h0 : cmpZ a.size b.size = 0
    · repeat' (first | refine EvC.seq ?_ | refine EvC.scope ?_ | refine EvC.block ?_ | (refine EvC.skip ?_) | (refine EvC.exit ?_) | (refine EvC.ret ?_; try simp only [thenC_ret, inBlock_ret]) | (refine EvC.reg ?_; simp (config := { maxSteps := 2000000 }) (disch := first | omega | rfl) only [EL_cons, EL_nil, LX_val, LX_call, dop_assign, dop_move, dop_bin, ev_const, ev_tmp, Tr.get_put, put_some, Nat.reduceEqDiff, Option.getD_some, reduceCtorEq, if_true, if_false, List.map_cons, List.map_nil, thenC_normal, dBin_eql, cl59, ieq_t h0]) | (refine EvC.condT ?_ ?_; simp (config := { maxSteps := 2000000 }) (disch := first | omega | rfl) only [ev_tmp, Tr.get_put, Nat.reduceEqDiff, Option.getD_some, reduceCtorEq, if_true, if_false]; refine EvC_go ?_))
      refine texts_ev.mono ?_
      rintro v H1 ⟨rfl, rfl⟩
      rw [orZ, if_pos h0] at hr
      repeat' (first | refine EvC.seq ?_ | refine EvC.scope ?_ | refine EvC.block ?_ | (refine EvC.skip ?_) | (refine EvC.exit ?_) | (refine EvC.ret ?_; try simp only [thenC_ret, inBlock_ret]) | (refine EvC.reg ?_; simp (config := { maxSteps := 2000000 }) (disch := first | omega | rfl) only [EL_cons, EL_nil, LX_val, dop_assign, dop_move, ev_tmp, Tr.get_put, put_some, Nat.reduceEqDiff, Option.getD_some, reduceCtorEq, if_true, if_false, thenC_normal, dop_un, bNegI, wrap_i64]) | (refine EvC.condT ?_ ?_; simp (config := { maxSteps := 2000000 }) (disch := first | omega | rfl) only [ev_tmp, Tr.get_put, Nat.reduceEqDiff, Option.getD_some, reduceCtorEq, if_true, if_false]; refine EvC_go ?_))
      exact leave_one rfl (by first | (simp only [Tr.get_put, Nat.reduceEqDiff, reduceCtorEq, if_true, if_false, Option.some.injEq]; rfl) | simp only []) ⟨by simp [numZ, hx, hy, orZ, h0], rfl⟩
    · rw [orZ, if_neg h0] at hr
      repeat' (first | refine EvC.seq ?_ | refine EvC.scope ?_ | refine EvC.block ?_ | (refine EvC.skip ?_; try simp only [thenC_normal]) | (refine EvC.exit ?_) | (refine EvC.ret ?_; try simp only [thenC_ret, inBlock_ret]) | (refine EvC.reg ?_; simp (config := { maxSteps := 2000000 }) (disch := first | omega | rfl) only [EL_cons, EL_nil, LX_val, dop_assign, dop_move, dop_bin, ev_const, ev_tmp, Tr.get_put, put_some, Nat.reduceEqDiff, Option.getD_some, reduceCtorEq, if_true, if_false, thenC_normal, dBin_eql, dop_un, ieq_f h0, bNegI, wrap_i64]) | (refine EvC.condT ?_ ?_; simp (config := { maxSteps := 2000000 }) (disch := first | omega | rfl) only [ev_tmp, Tr.get_put, Nat.reduceEqDiff, Option.getD_some, reduceCtorEq, if_true, if_false]; refine EvC_go ?_) | (refine EvC.condF ?_ ?_; simp (config := { maxSteps := 2000000 }) (disch := first | omega | rfl) only [ev_tmp, Tr.get_put, Nat.reduceEqDiff, Option.getD_some, reduceCtorEq, if_true, if_false]; refine EvC_go ?_))
      exact leave_one rfl (by first | (simp only [Tr.get_put, Nat.reduceEqDiff, reduceCtorEq, if_true, if_false, Option.some.injEq]; rfl) | simp only []) ⟨by simp [numZ, hx, hy, orZ, h0], rfl⟩
  · rw [decide_eq_true h1] at hx; rw [decide_eq_false h2] at hy
    repeat' (first | refine EvC.seq ?_ | refine EvC.scope ?_ | refine EvC.block ?_ | (refine EvC.skip ?_) | (refine EvC.exit ?_) | (refine EvC.ret ?_; try simp only [thenC_ret, inBlock_ret]) | (refine EvC.reg ?_; simp (config := { maxSteps := 2000000 }) (disch := first | omega | rfl) only [initTm, EL_cons, EL_nil, LX_val, dop_assign, dop_move, dop_bin, ev_const, ev_tmp, Tr.get_put, put_some, Nat.reduceEqDiff, Option.getD_some, Nat.zero_add, reduceCtorEq, if_true, if_false, thenC_normal, dBin_eql, dop_index, Int.reduceToNat, iy9, ieq_t, ieq_f, bNeB Tryd.underlying4, n2]) | (refine EvC.condT ?_ ?_; simp (config := { maxSteps := 2000000 }) (disch := first | omega | rfl) only [ev_tmp, Tr.get_put, Nat.reduceEqDiff, Option.getD_some, reduceCtorEq, if_true, if_false]; refine EvC_go ?_))
    exact leave_one rfl (by first | (simp only [Tr.get_put, Nat.reduceEqDiff, reduceCtorEq, if_true, if_false, Option.some.injEq]; rfl) | simp only []) ⟨by simp [numZ, hx, hy], rfl⟩
  · rw [decide_eq_false h1] at hx; rw [decide_eq_true h2] at hy
    repeat' (first | refine EvC.seq ?_ | refine EvC.scope ?_ | refine EvC.block ?_ | (refine EvC.skip ?_; try simp only [thenC_normal]) | (refine EvC.exit ?_) | (refine EvC.ret ?_; try simp only [thenC_ret, inBlock_ret]) | (refine EvC.reg ?_; simp (config := { maxSteps := 2000000 }) (disch := first | omega | rfl) only [initTm, EL_cons, EL_nil, LX_val, dop_assign, dop_move, dop_bin, ev_const, ev_tmp, Tr.get_put, put_some, Nat.reduceEqDiff, Option.getD_some, Nat.zero_add, reduceCtorEq, if_true, if_false, thenC_normal, dBin_eql, dop_index, Int.reduceToNat, iy9, ieq_t, ieq_f, bNeB Tryd.underlying4, n3]) | (refine EvC.condT ?_ ?_; simp (config := { maxSteps := 2000000 }) (disch := first | omega | rfl) only [ev_tmp, Tr.get_put, Nat.reduceEqDiff, Option.getD_some, reduceCtorEq, if_true, if_false]; refine EvC_go ?_) | (refine EvC.condF ?_ ?_; simp (config := { maxSteps := 2000000 }) (disch := first | omega | rfl) only [ev_tmp, Tr.get_put, Nat.reduceEqDiff, Option.getD_some, reduceCtorEq, if_true, if_false]; refine EvC_go ?_))
    exact leave_one rfl (by first | (simp only [Tr.get_put, Nat.reduceEqDiff, reduceCtorEq, if_true, if_false, Option.some.injEq]; rfl) | simp only []) ⟨by simp [numZ, hx, hy], rfl⟩
  · rw [decide_eq_false h1] at hx; rw [decide_eq_false h2] at hy
    repeat' (first | refine EvC.seq ?_ | refine EvC.scope ?_ | refine EvC.block ?_ | (refine EvC.skip ?_; try simp only [thenC_normal]) | (refine EvC.exit ?_) | (refine EvC.ret ?_; try simp only [thenC_ret, inBlock_ret]) | (refine EvC.reg ?_; simp (config := { maxSteps := 2000000 }) (disch := first | omega | rfl) only [initTm, EL_cons, EL_nil, LX_val, LX_call, dop_assign, dop_move, dop_bin, ev_const, ev_tmp, Tr.get_put, put_some, Nat.reduceEqDiff, Option.getD_some, Nat.zero_add, reduceCtorEq, if_true, if_false, List.map_cons, List.map_nil, thenC_normal, dBin_eql, dop_len, dop_index, Int.reduceToNat, ln9, cl55, iy9, ieq_f, bNeB Tryd.underlying4, n4]) | (refine EvC.condT ?_ ?_; simp (config := { maxSteps := 2000000 }) (disch := first | omega | rfl) only [ev_tmp, Tr.get_put, Nat.reduceEqDiff, Option.getD_some, reduceCtorEq, if_true, if_false]; refine EvC_go ?_) | (refine EvC.condF ?_ ?_; simp (config := { maxSteps := 2000000 }) (disch := first | omega | rfl) only [ev_tmp, Tr.get_put, Nat.reduceEqDiff, Option.getD_some, reduceCtorEq, if_true, if_false]; refine EvC_go ?_))
    refine sign_ev.mono ?_
    rintro v H1 ⟨rfl, rfl⟩
    by_cases h0 : cmpZ a.size b.size = 0
    · repeat' (first | refine EvC.seq ?_ | refine EvC.scope ?_ | refine EvC.block ?_ | (refine EvC.skip ?_) | (refine EvC.exit ?_) | (refine EvC.ret ?_; try simp only [thenC_ret, inBlock_ret]) | (refine EvC.reg ?_; simp (config := { maxSteps := 2000000 }) (disch := first | omega | rfl) only [EL_cons, EL_nil, LX_val, LX_call, dop_assign, dop_move, dop_bin, ev_const, ev_tmp, Tr.get_put, put_some, Nat.reduceEqDiff, Option.getD_some, reduceCtorEq, if_true, if_false, List.map_cons, List.map_nil, thenC_normal, dBin_eql, cl59, ieq_t h0]) | (refine EvC.condT ?_ ?_; simp (config := { maxSteps := 2000000 }) (disch := first | omega | rfl) only [ev_tmp, Tr.get_put, Nat.reduceEqDiff, Option.getD_some, reduceCtorEq, if_true, if_false]; refine EvC_go ?_))
      refine texts_ev.mono ?_
      rintro v H1 ⟨rfl, rfl⟩
      repeat' (first | refine EvC.seq ?_ | refine EvC.scope ?_ | refine EvC.block ?_ | (refine EvC.skip ?_; try simp only [thenC_normal]) | (refine EvC.exit ?_) | (refine EvC.ret ?_; try simp only [thenC_ret, inBlock_ret]) | (refine EvC.reg ?_; simp (config := { maxSteps := 2000000 }) (disch := first | omega | rfl) only [EL_cons, EL_nil, LX_val, dop_assign, dop_move, ev_tmp, Tr.get_put, put_some, Nat.reduceEqDiff, Option.getD_some, reduceCtorEq, if_true, if_false, thenC_normal]) | (refine EvC.condT ?_ ?_; simp (config := { maxSteps := 2000000 }) (disch := first | omega | rfl) only [ev_tmp, Tr.get_put, Nat.reduceEqDiff, Option.getD_some, reduceCtorEq, if_true, if_false]; refine EvC_go ?_) | (refine EvC.condF ?_ ?_; simp (config := { maxSteps := 2000000 }) (disch := first | omega | rfl) only [ev_tmp, Tr.get_put, Nat.reduceEqDiff, Option.getD_some, reduceCtorEq, if_true, if_false]; refine EvC_go ?_))
      exact leave_one rfl (by first | (simp only [Tr.get_put, Nat.reduceEqDiff, reduceCtorEq, if_true, if_false, Option.some.injEq]; rfl) | simp only []) ⟨by simp [numZ, hx, hy, orZ, h0], rfl⟩
    · repeat' (first | refine EvC.seq ?_ | refine EvC.scope ?_ | refine EvC.block ?_ | (refine EvC.skip ?_; try simp only [thenC_normal]) | (refine EvC.exit ?_) | (refine EvC.ret ?_; try simp only [thenC_ret, inBlock_ret]) | (refine EvC.reg ?_; simp (config := { maxSteps := 2000000 }) (disch := first | omega | rfl) only [EL_cons, EL_nil, LX_val, dop_assign, dop_move, dop_bin, ev_const, ev_tmp, Tr.get_put, put_some, Nat.reduceEqDiff, Option.getD_some, reduceCtorEq, if_true, if_false, thenC_normal, dBin_eql, ieq_f h0]) | (refine EvC.condT ?_ ?_; simp (config := { maxSteps := 2000000 }) (disch := first | omega | rfl) only [ev_tmp, Tr.get_put, Nat.reduceEqDiff, Option.getD_some, reduceCtorEq, if_true, if_false]; refine EvC_go ?_) | (refine EvC.condF ?_ ?_; simp (config := { maxSteps := 2000000 }) (disch := first | omega | rfl) only [ev_tmp, Tr.get_put, Nat.reduceEqDiff, Option.getD_some, reduceCtorEq, if_true, if_false]; refine EvC_go ?_))
      exact leave_one rfl (by first | (simp only [Tr.get_put, Nat.reduceEqDiff, reduceCtorEq, if_true, if_false, Option.some.injEq]; rfl) | simp only []) ⟨by simp [numZ, hx, hy, orZ, h0], rfl⟩

end Go.Proofs.YtlllbkjiadcloaaDoor.hb
end
