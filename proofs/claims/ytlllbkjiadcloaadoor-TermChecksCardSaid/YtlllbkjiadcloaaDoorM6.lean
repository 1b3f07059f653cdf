import Derived.Test.YtlllbkjiadcloaaDoorM3
import Derived.Test.YtlllbkjiadcloaaDoorProg
import Derived.KernelRfl
import Derived.Lib.ValidLaws
import Derived.Test.YtlllbkjiadcloaaDoorM5
/- Lemmas on the program's own code, towards the laws of this folder, part 6. Conditions: as each lemma says. -/
-- W1
section
/- Counting a term's nodes. -/
namespace Go.Proofs.YtlllbkjiadcloaaDoor.hb
open Go Go.RowKit Go.Hb

theorem call48 : callable Tryd.prog 48 = true := by kernel_rfl
theorem agg26 : isAgg? Tryd.prog 26 = some true := by kernel_rfl
theorem agg24 : isAgg? Tryd.prog 24 = some false := by kernel_rfl
theorem cells26 : Tryd.prog.cellsOf 26 = 6 := by kernel_rfl
theorem info26 : (Tryd.prog.info? 26).isSome = true := by kernel_rfl
theorem fld26_5 : fldOf Tryd.prog 26 5 = some (5, 24) := by kernel_rfl
theorem one24 : Nat.beq (Tryd.prog.cellsOf 24) 0 = false := by kernel_rfl
theorem zero26 : zerosOf Tryd.prog 26 = some [.int .i64 0, .string ByteArray.empty, .string ByteArray.empty, .int .u64 0, .int .i64 0, .slice none 0 0] := by kernel_rfl

mutual
def cnt : Tm → Nat → Nat
  | .mk _ _ _ _ _ l, n => cntL l (n + 1)
def cntL : List Tm → Nat → Nat
  | [], n => n
  | t :: l, n => if 4000 < n then n else cntL l (cnt t n)
end

theorem body48 : Tryd.f48.body = some (Tryd.f48.body.get rfl) := rfl

theorem mem_size {t : Tm} {k : Int} {s u : ByteArray} {b v : Int} {l : List Tm} (h : t ∈ l) : SizeOf.sizeOf t < SizeOf.sizeOf (Tm.mk k s u b v l) := by
  have := List.sizeOf_lt_of_mem h
  simp; omega
theorem args_size {t u : Tm} {i : Nat} (h : t.args[i]? = some u) : SizeOf.sizeOf u < SizeOf.sizeOf t := by
  obtain ⟨k, s, w, b, v, l⟩ := t
  exact mem_size (List.mem_of_getElem? h)
theorem cnt_args (t : Tm) (n : Nat) : cnt t n = cntL t.args (n + 1) := by
  obtain ⟨k, s, w, b, v, l⟩ := t
  rw [cnt]; rfl
theorem cntL_le : ∀ (l : List Tm), (∀ t ∈ l, ∀ n, n ≤ 4000 → cnt t n ≤ 4001) → ∀ n, n ≤ 4001 → cntL l n ≤ 4001
  | [], _, n, h => by rw [cntL]; exact h
  | t :: l, ht, n, h => by
    rw [cntL]
    split
    · exact h
    · exact cntL_le l (fun u hu => ht u (List.mem_cons_of_mem _ hu)) _ (ht t (by simp) n (by omega))
theorem cnt_le : ∀ (m : Nat) (t : Tm), SizeOf.sizeOf t < m → ∀ n, n ≤ 4000 → cnt t n ≤ 4001
  | 0, t, h, _, _ => by omega
  | m + 1, t, h, n, hn => by
    rw [cnt_args]
    refine cntL_le _ (fun u hu k hk => cnt_le m u ?_ k hk) _ (by omega)
    obtain ⟨i, hi, e⟩ := List.getElem_of_mem hu
    have := args_size (t := t) (u := u) (i := i) (by rw [List.getElem?_eq_getElem hi, e])
    omega
theorem cntL_drop {l : List Tm} {i : Nat} {t : Tm} (h : l[i]? = some t) (n : Nat) (hn : n ≤ 4000) : cntL (l.drop i) n = cntL (l.drop (i + 1)) (cnt t n) := by
  have hlt := (List.getElem?_eq_some_iff.1 h).1
  have he : l[i] = t := (List.getElem?_eq_some_iff.1 h).2
  rw [List.drop_eq_getElem_cons hlt, cntL, if_neg (by omega), he]
theorem cntL_over {l : List Tm} {n : Nat} (hn : 4000 < n) : cntL l n = n := by
  cases l with
  | nil => rw [cntL]
  | cons t l => rw [cntL, if_pos hn]

variable {ok : Ok}
set_option maxRecDepth 10000 in
theorem count_ev (hk : ∀ args H, ok.K 48 args H = none) (hm : ok.testBit 48 = true) : ∀ (m : Nat) {t : Tm} {cs : List Value} {H : Heap}, SizeOf.sizeOf t < m → RepT H t cs → H.wf → ∀ n : Nat, n ≤ 4000 →
    EvF Tryd.prog ok 48 [.agg ⟨cs⟩, .int .i64 n] H fun v H' => v = .int .i64 (cnt t n) ∧ HX H H' := by
  intro m
  induction m with
  | zero => intro t cs H h; omega
  | succ m ih =>
  intro t cs H hsz r hw n hn
  obtain ⟨a, c, cells, rfl, b1, b2, b3, b4, b5, rl⟩ := r.inv
  refine EvF.enter (hk _ _) Tryd.func48 hm rfl ?_
  refine EvC.seq (EvC.reg ?_)
  simp (disch := omega) only [initTm, EL_cons, EL_nil, LX_val, dop_box, dBox, dop_assign, ev_const, ev_tmp, Tr.get_put, put_some, Option.getD_some, Nat.zero_add, Value.cells, List.all_cons, List.all_nil, one, Bool.and_self, reduceCtorEq, if_true, if_false, thenC_normal]
  refine EvC.seq (EvC.reg ?_)
  simp (disch := omega) only [EL_cons, EL_nil, LX_val, dop_assign, dop_move, dop_bin, dBin_add, ev_const, ev_tmp, Tr.get_put, put_some, Nat.reduceEqDiff, Option.getD_some, reduceCtorEq, if_true, if_false, thenC_normal, wrap_i64]
  refine EvC.seq (EvC.seq (EvC.reg ?_))
  simp (disch := omega) only [EL_cons, EL_nil, LX_val, dop_move, dop_load, dop_fieldAddr, ev_const, ev_tmp, Tr.get_put, put_some, Nat.reduceEqDiff, Option.getD_some, Nat.zero_add, reduceCtorEq, if_true, if_false, load_new, cutC, dload1_some, List.drop_succ_cons, List.drop_zero, List.take_succ_cons, List.take_zero, List.length_cons, List.length_nil, Nat.beq_refl, thenC_normal, dop_len, dFieldAddr_at fld26_5 one24, dLoad_one agg24, dop_len, dLn_slice Tryd.underlying24]
  refine EvC.block (EvC.loop (fun k st => ∃ tm H' i n', st = ⟨tm, [], H'⟩ ∧ k = t.args.length - i ∧ i ≤ t.args.length ∧ n' ≤ 4001 ∧ cntL (t.args.drop i) n' = cnt t n ∧ tm.get 1 = some (.int .i64 (n' : Nat)) ∧
    tm.get 10 = some (.slice a t.args.length c) ∧ tm.get 11 = some (.int .i64 t.args.length) ∧ tm.get 12 = some (.int .i64 (i : Nat)) ∧ HX H H') ?_ t.args.length _ ?_)
  · rintro k st ⟨tm, H', i, n', rfl, hk', hi, hn', hc, g1, g10, g11, g12, hx⟩
    refine EvC.seq (EvC.reg ?_)
    simp (disch := omega) only [EL_cons, EL_nil, LX_val, dop_bin, dBin_lss, ev_tmp, put_some, Option.getD_some, thenC_normal, g11, g12]
    refine EvC.seq ?_
    by_cases hlt : i < t.args.length
    · refine EvC.condT (by simp only [ev_tmp, Tr.get_put, Option.getD_some, if_true]; exact congrArg _ (decide_eq_true (by omega))) (EvC.skip ?_)
      obtain ⟨b, o, rfl, hload, hrep⟩ := rl.at (i := i) (List.getElem?_eq_getElem hlt)
      obtain ⟨a', c', cells', hcell, -⟩ := hrep.inv
      have hld := hx.load hw hload
      rw [hcell] at hld hrep
      refine EvC.seq (EvC.block (EvC.seq (EvC.reg ?_)))
      simp (disch := omega) only [EL_cons, EL_nil, LX_val, dop_load, dop_store, dop_indexAddr, dop_alloc, dAlloc, ev_tmp, Tr.get_put, put_some, put_none, Nat.reduceEqDiff, Option.getD_some, Nat.reduceAdd, Nat.zero_add, List.all_cons, List.all_nil, one, Bool.and_self, if_true, if_false, get_new, dloadA_some, List.drop_succ_cons, List.length_cons, List.length_nil, Nat.beq_refl, dStoreIf_true, dStoreB_row, splice_zero, List.append_nil, Nat.le_refl, and_self, List.drop_nil, thenC_normal, g10, g12, dIndexAddr_slice Tryd.underlying24 info26 hlt, dLoad_agg agg26, cells26, hld, zero26, dStore_agg info26]
      refine EvC.seq (EvC.seq (EvC.reg ?_))
      simp (disch := omega) only [EL_cons, EL_nil, LX_val, dop_move, dop_bin, dBin_gtr, ev_const, ev_tmp, Tr.get_put, put_some, Nat.reduceEqDiff, Option.getD_some, if_true, if_false, thenC_normal, g1]
      have hx2 := (hx.new (some (Blk.row [Value.int IntKind.i64 0, Value.string ByteArray.empty, Value.string ByteArray.empty, Value.int IntKind.u64 0, Value.int IntKind.i64 0, Value.slice none 0 0] 26))).put (i := H'.next) hx.next (Nat.lt_succ_self _)
        (some (.row [Value.int IntKind.i64 t.args[i].kind, Value.string t.args[i].name, Value.string t.args[i].num, Value.int IntKind.u64 t.args[i].bits, Value.int IntKind.i64 t.args[i].var, Value.slice a' t.args[i].args.length c'] 26))
      by_cases hov : 4000 < n'
      · refine EvC.condT (by simp only [ev_tmp, Tr.get_put, Nat.reduceEqDiff, Option.getD_some, if_true, if_false]; exact congrArg _ (decide_eq_true (by omega))) (EvC.exit ?_)
        simp only [thenC_exit, inBlock_exit, reduceIte, Nat.reduceEqDiff, thenC_normal]
        refine EvC.seq (EvC.reg ?_)
        simp (disch := omega) only [EL_cons, EL_nil, LX_val, dop_assign, dop_move, ev_tmp, Tr.get_put, put_some, Nat.reduceEqDiff, Option.getD_some, if_true, if_false, thenC_normal, g1]
        refine EvC.ret (leave_one rfl (by simp only [Tr.get_put, Nat.reduceEqDiff, if_true, if_false]; rfl) ⟨?_, hx2⟩)
        rw [← hc, cntL_over hov]
      · refine EvC.condF (by simp only [ev_tmp, Tr.get_put, Nat.reduceEqDiff, Option.getD_some, if_true, if_false]; exact congrArg _ (decide_eq_false (by omega))) (EvC.skip ?_)
        simp only [thenC_normal]
        refine EvC.reg ?_
        simp (disch := omega) only [EL_cons, EL_nil, LX_val, LX_call, dop_assign, dop_move, dop_load, ev_tmp, Tr.get_put, put_some, Nat.reduceEqDiff, Option.getD_some, Nat.reduceAdd, Nat.zero_add, if_true, if_false, load_new, load_put, cutC, dloadA_some, List.drop_zero, List.take_succ_cons, List.take_zero, List.length_cons, List.length_nil, Nat.beq_refl, List.map_cons, List.map_nil, thenC_normal, inBlock_normal, g1, dLoad_agg agg26, cells26, dop_call call48]
        have ht : t.args[i]? = some t.args[i] := List.getElem?_eq_getElem hlt
        have hs := args_size ht
        have hx1 : HX H H' := hx
        refine (ih (t := t.args[i]) (by omega) (hrep.mono hx2 hw) hx2.wf n' (by omega)).mono ?_
        rintro v H2 ⟨rfl, hx3⟩
        have hL : t.args.length ≤ 9223372036854775807 := Nat.le_trans rl.len rl.cap
        refine EvC.reg ?_
        simp (disch := omega) only [EL_cons, EL_nil, LX_val, dop_move, dop_bin, dBin_add, ev_const, ev_tmp, Tr.get_put, put_some, Nat.reduceEqDiff, Option.getD_some, if_true, if_false, thenC_normal, g12, wrap_i64]
        refine ⟨t.args.length - (i + 1), by omega, _, _, i + 1, cnt t.args[i] n', rfl, rfl, by omega, cnt_le _ _ (Nat.lt_succ_self _) _ (by omega), by rw [← hc, cntL_drop ht _ (by omega)], by simp only [Tr.get_put, Nat.reduceEqDiff, if_true, if_false], by simp only [Tr.get_put, Nat.reduceEqDiff, if_false]; exact g10, by simp only [Tr.get_put, Nat.reduceEqDiff, if_false]; exact g11, by simp only [Tr.get_put, Nat.reduceEqDiff, if_true, if_false]; rfl, hx2.trans hx3⟩
    · refine EvC.condF (by simp only [ev_tmp, Tr.get_put, Option.getD_some, if_true]; exact congrArg _ (decide_eq_false (by omega))) (EvC.exit ?_)
      simp only [thenC_exit, inBlock_exit, reduceIte, Nat.reduceEqDiff, thenC_normal]
      refine EvC.seq (EvC.reg ?_)
      simp (disch := omega) only [EL_cons, EL_nil, LX_val, dop_assign, dop_move, ev_tmp, Tr.get_put, put_some, Nat.reduceEqDiff, Option.getD_some, if_true, if_false, thenC_normal, g1]
      refine EvC.ret (leave_one rfl (by simp only [Tr.get_put, Nat.reduceEqDiff, if_true, if_false]; rfl) ⟨?_, hx⟩)
      rw [← hc, List.drop_of_length_le (by omega), cntL]
  · exact ⟨_, _, 0, n + 1, rfl, rfl, by omega, by omega, by rw [cnt_args]; rfl, by simp only [Tr.get_put, Nat.reduceEqDiff, reduceCtorEq, if_true, if_false]; rfl, by simp only [Tr.get_put, Nat.reduceEqDiff, reduceCtorEq, if_true, if_false], by simp only [Tr.get_put, Nat.reduceEqDiff, reduceCtorEq, if_true, if_false], by simp only [Tr.get_put, Nat.reduceEqDiff, reduceCtorEq, if_true, if_false]; rfl, (HX.refl hw).new _⟩
end Go.Proofs.YtlllbkjiadcloaaDoor.hb
end

-- W2
section
/- Counting a term's nodes: the reference, and both 'Nodes'. -/
namespace Go.Proofs.YtlllbkjiadcloaaDoor.hb
open Go Go.RowKit Go.Hb

theorem call49 : callable Tryd.prog 49 = true := by kernel_rfl
theorem call13 : callable Tryd.prog 13 = true := by kernel_rfl
theorem call14 : callable Tryd.prog 14 = true := by kernel_rfl

variable {ok : Ok}
set_option maxRecDepth 10000 in
theorem count_ref_ev (hk : ∀ args H, ok.K 49 args H = none) (hm : ok.testBit 49 = true) : ∀ (m : Nat) {t : Tm} {cs : List Value} {H : Heap}, SizeOf.sizeOf t < m → RepT H t cs → H.wf → ∀ n : Nat, n ≤ 4000 →
    EvF Tryd.prog ok 49 [.agg ⟨cs⟩, .int .i64 n] H fun v H' => v = .int .i64 (cnt t n) ∧ HX H H' := by
  intro m
  induction m with
  | zero => intro t cs H h; omega
  | succ m ih =>
  intro t cs H hsz r hw n hn
  obtain ⟨a, c, cells, rfl, b1, b2, b3, b4, b5, rl⟩ := r.inv
  refine EvF.enter (hk _ _) Tryd.func49 hm rfl ?_
  (repeat refine EvC.seq ?_); refine EvC.reg ?_
  simp (disch := omega) only [initTm, EL_cons, EL_nil, LX_val, dop_box, dBox, dop_assign, ev_const, ev_tmp, Tr.get_put, put_some, Option.getD_some, Nat.zero_add, Value.cells, List.all_cons, List.all_nil, one, Bool.and_self, reduceCtorEq, if_true, if_false, thenC_normal]
  (repeat refine EvC.seq ?_); refine EvC.reg ?_
  simp (disch := omega) only [EL_cons, EL_nil, LX_val, dop_assign, dop_move, dop_bin, dBin_add, ev_const, ev_tmp, Tr.get_put, put_some, Nat.reduceEqDiff, Option.getD_some, reduceCtorEq, if_true, if_false, thenC_normal, wrap_i64]
  (repeat refine EvC.seq ?_); refine EvC.reg ?_
  simp (disch := omega) only [EL_cons, EL_nil, LX_val, dop_assign, ev_const, put_some, thenC_normal]
  (repeat refine EvC.seq ?_); refine EvC.block (EvC.loop (fun k st => ∃ tm H' i n', st = ⟨tm, [], H'⟩ ∧ k = t.args.length - i ∧ i ≤ t.args.length ∧ n' ≤ 4001 ∧ cntL (t.args.drop i) n' = cnt t n ∧ tm.get 1 = some (.int .i64 (n' : Nat)) ∧
    tm.get 2 = some (.pointer (some ⟨H.next, 0, none⟩)) ∧ tm.get 5 = some (.int .i64 (i : Nat)) ∧
    H'.get H.next = some (.row [.int .i64 t.kind, .string t.name, .string t.num, .int .u64 t.bits, .int .i64 t.var, .slice a t.args.length c] 26) ∧ H.next < H'.next ∧ HX H H') ?_ t.args.length _ ?_)
  · rintro k st ⟨tm, H', i, n', rfl, hk', hi, hn', hc, g1, g2, g5, hbox, hlt0, hx⟩
    have hld5 : H'.load ⟨H.next, 5, none⟩ 1 = some [.slice a t.args.length c] := by
      simp only [Heap.load, Heap.cells, hbox]; rfl
    (repeat refine EvC.seq ?_); refine EvC.reg ?_
    by_cases hlt : i < t.args.length
    · obtain ⟨b, o, rfl, hload, hrep⟩ := rl.at (i := i) (List.getElem?_eq_getElem hlt)
      obtain ⟨a', c', cells', hcell, -⟩ := hrep.inv
      have hld := hx.load hw hload
      rw [hcell] at hld hrep
      have hd1 : decide ((i : Int) < (t.args.length : Int)) = true := decide_eq_true (by omega)
      simp (disch := omega) only [EL_cons, EL_nil, EL_guard, LX_val, LG_tt, dop_move, dop_pick, dPick_bool, dop_load, dop_fieldAddr, dop_bin, dBin_lss, ev_const, ev_tmp, Tr.get_put, put_some, Nat.reduceEqDiff, Option.getD_some, Nat.zero_add, if_true, if_false, dload1_some, thenC_normal, guardOf_eq, guardGet_some, List.getElem?_cons_succ, List.getElem?_cons_zero, dBin_leq, dop_len, g1, g2, g5, dFieldAddr_at fld26_5 one24, dLoad_one agg24, hld5, dLn_slice Tryd.underlying24, hd1]
      by_cases hov : 4000 < n'
      · (repeat refine EvC.seq ?_); refine EvC.condF (by simp only [ev_tmp, Tr.get_put, Nat.reduceEqDiff, Option.getD_some, if_true, if_false]; exact congrArg _ (decide_eq_false (by omega))) (EvC.exit ?_)
        simp only [thenC_exit, inBlock_exit, reduceIte, thenC_normal]
        (repeat refine EvC.seq ?_); refine EvC.reg ?_
        simp (disch := omega) only [EL_cons, EL_nil, LX_val, dop_assign, dop_move, ev_tmp, Tr.get_put, put_some, Nat.reduceEqDiff, Option.getD_some, if_true, if_false, thenC_normal, g1]
        refine EvC.ret (leave_one rfl (by simp only [Tr.get_put, Nat.reduceEqDiff, if_true, if_false]; rfl) ⟨?_, hx⟩)
        rw [← hc, cntL_over hov]
      · (repeat refine EvC.seq ?_); refine EvC.condT (by simp only [ev_tmp, Tr.get_put, Nat.reduceEqDiff, Option.getD_some, if_true, if_false]; exact congrArg _ (decide_eq_true (by omega))) (EvC.skip ?_)
        simp only [thenC_normal]
        (repeat refine EvC.seq ?_); refine EvC.block ?_; (repeat refine EvC.seq ?_); refine EvC.reg ?_
        simp (disch := omega) only [EL_cons, EL_nil, LX_val, LX_call, dop_assign, dop_move, dop_load, dop_fieldAddr, dop_indexAddr, ev_tmp, Tr.get_put, put_some, Nat.reduceEqDiff, Option.getD_some, Nat.zero_add, if_true, if_false, dloadA_some, dload1_some, List.map_cons, List.map_nil, thenC_normal, inBlock_normal, g1, g2, g5, dFieldAddr_at fld26_5 one24, dLoad_one agg24, hld5, dIndexAddr_slice Tryd.underlying24 info26 hlt, dLoad_agg agg26, cells26, hld, dop_call call49]
        have ht : t.args[i]? = some t.args[i] := List.getElem?_eq_getElem hlt
        have hs := args_size ht
        refine (ih (t := t.args[i]) (by omega) (hrep.mono hx hw) hx.wf n' (by omega)).mono ?_
        rintro v H2 ⟨rfl, hx3⟩
        have hL : t.args.length ≤ 9223372036854775807 := Nat.le_trans rl.len rl.cap
        refine EvC.reg ?_
        simp (disch := omega) only [EL_cons, EL_nil, LX_val, dop_assign, dop_move, dop_bin, dBin_add, ev_const, ev_tmp, Tr.get_put, put_some, Nat.reduceEqDiff, Option.getD_some, if_true, if_false, thenC_normal, g5, wrap_i64]
        refine ⟨t.args.length - (i + 1), by omega, _, _, i + 1, cnt t.args[i] n', rfl, rfl, by omega, cnt_le _ _ (Nat.lt_succ_self _) _ (by omega), by rw [← hc, cntL_drop ht _ (by omega)], by simp only [Tr.get_put, Nat.reduceEqDiff, if_true, if_false], by simp only [Tr.get_put, Nat.reduceEqDiff, if_false]; exact g2, by simp only [Tr.get_put, Nat.reduceEqDiff, if_true, if_false]; rfl,
          by rw [hx3.keep _ hlt0]; exact hbox, Nat.lt_of_lt_of_le hlt0 hx3.next, hx.trans hx3⟩
    · have hd1 : decide ((i : Int) < (t.args.length : Int)) = false := decide_eq_false (by omega)
      simp (disch := omega) only [EL_cons, EL_nil, EL_guard, LX_val, LG_tf, dop_move, dop_pick, dPick_bool, dop_load, dop_fieldAddr, dop_bin, dBin_lss, ev_const, ev_tmp, Tr.get_put, put_some, Nat.reduceEqDiff, Option.getD_some, Nat.zero_add, if_true, if_false, dload1_some, thenC_normal, guardOf_eq, guardGet_some, List.getElem?_cons_succ, List.getElem?_cons_zero, dop_len, g2, g5, dFieldAddr_at fld26_5 one24, dLoad_one agg24, hld5, dLn_slice Tryd.underlying24, hd1, Bool.false_eq_true]
      (repeat refine EvC.seq ?_); refine EvC.condF (by simp only [ev_tmp, Tr.get_put, Nat.reduceEqDiff, Option.getD_some, if_true, if_false]) (EvC.exit ?_)
      simp only [thenC_exit, inBlock_exit, reduceIte, thenC_normal]
      (repeat refine EvC.seq ?_); refine EvC.reg ?_
      simp (disch := omega) only [EL_cons, EL_nil, LX_val, dop_assign, dop_move, ev_tmp, Tr.get_put, put_some, Nat.reduceEqDiff, Option.getD_some, if_true, if_false, thenC_normal, g1]
      refine EvC.ret (leave_one rfl (by simp only [Tr.get_put, Nat.reduceEqDiff, if_true, if_false]; rfl) ⟨?_, hx⟩)
      rw [← hc, List.drop_of_length_le (by omega), cntL]
  · exact ⟨_, _, 0, n + 1, rfl, rfl, by omega, by omega, by rw [cnt_args]; rfl, by simp only [Tr.get_put, Nat.reduceEqDiff, reduceCtorEq, if_true, if_false]; rfl, by simp only [Tr.get_put, Nat.reduceEqDiff, reduceCtorEq, if_true, if_false], by simp only [Tr.get_put, Nat.reduceEqDiff, reduceCtorEq, if_true, if_false]; rfl, by simp only [if_true, get_new], Nat.lt_succ_self _, (HX.refl hw).new _⟩

theorem nodes_ev (hk : ∀ f args H, (f = 48 ∨ f = 13) → ok.K f args H = none) (hm : ok.testBit 48 = true) (hm2 : ok.testBit 13 = true) {t : Tm} {cs : List Value} {H : Heap} (r : RepT H t cs) (hw : H.wf) :
    EvF Tryd.prog ok 13 [.agg ⟨cs⟩] H fun v H' => v = .int .i64 (cnt t 0) ∧ HX H H' := by
  obtain ⟨a, c, cells, rfl, b1, b2, b3, b4, b5, rl⟩ := r.inv
  refine EvF.enter (hk _ _ _ (.inr rfl)) Tryd.func13 hm2 rfl ?_
  (repeat refine EvC.seq ?_); refine EvC.reg ?_
  simp (disch := omega) only [initTm, EL_cons, EL_nil, LX_val, dop_box, dBox, dop_assign, ev_const, ev_tmp, Tr.get_put, put_some, Option.getD_some, Value.cells, List.all_cons, List.all_nil, one, Bool.and_self, if_true, thenC_normal]
  (repeat refine EvC.seq ?_); refine EvC.reg ?_
  simp (disch := omega) only [EL_cons, LX_val, LX_call, dop_load, ev_const, ev_tmp, Tr.get_put, put_some, Nat.reduceEqDiff, Option.getD_some, Nat.reduceAdd, Nat.zero_add, reduceCtorEq, if_true, if_false, load_new, cutC, dloadA_some, List.drop_zero, List.take_succ_cons, List.take_zero, List.length_cons, List.length_nil, Nat.beq_refl, List.map_cons, List.map_nil, thenC_normal, dLoad_agg agg26, cells26, dop_call call48]
  have hx := (HX.refl hw).new (some (Blk.row [Value.int IntKind.i64 t.kind, Value.string t.name, Value.string t.num, Value.int IntKind.u64 t.bits, Value.int IntKind.i64 t.var, Value.slice a t.args.length c] 26))
  refine (count_ev (hk 48 · · (.inl rfl)) hm _ (Nat.lt_succ_self _) (r.mono hx hw) hx.wf 0 (by omega)).mono ?_
  rintro v H2 ⟨rfl, hx3⟩
  have hle := cnt_le _ t (Nat.lt_succ_self _) 0 (by omega)
  have hif : (if (4001 : Int) < (cnt t 0 : Int) then (4001 : Int) else (cnt t 0 : Int)) = (cnt t 0 : Int) := if_neg (by omega)
  simp (disch := omega) only [EL_cons, EL_nil, LX_val, dop_assign, ev_const, ev_tmp, Tr.get_put, put_some, Nat.reduceEqDiff, Option.getD_some, reduceCtorEq, if_true, if_false, dop_min, min_int, hif]
  exact EvC.ret (leave_one rfl (by simp only [Tr.get_put, Nat.reduceEqDiff, reduceCtorEq, if_true, if_false]) ⟨rfl, hx.trans hx3⟩)

theorem nodes_ref_ev (hk : ∀ f args H, (f = 49 ∨ f = 14) → ok.K f args H = none) (hm : ok.testBit 49 = true) (hm2 : ok.testBit 14 = true) {t : Tm} {cs : List Value} {H : Heap} (r : RepT H t cs) (hw : H.wf) :
    EvF Tryd.prog ok 14 [.agg ⟨cs⟩] H fun v H' => v = .int .i64 (cnt t 0) ∧ HX H H' := by
  obtain ⟨a, c, cells, rfl, b1, b2, b3, b4, b5, rl⟩ := r.inv
  refine EvF.enter (hk _ _ _ (.inr rfl)) Tryd.func14 hm2 rfl ?_
  (repeat refine EvC.seq ?_); refine EvC.reg ?_
  simp (disch := omega) only [initTm, EL_cons, EL_nil, LX_val, dop_box, dBox, dop_assign, ev_const, ev_tmp, Tr.get_put, put_some, Option.getD_some, Value.cells, List.all_cons, List.all_nil, one, Bool.and_self, if_true, thenC_normal]
  (repeat refine EvC.seq ?_); refine EvC.reg ?_
  simp (disch := omega) only [EL_cons, EL_nil, LX_val, LX_call, dop_assign, dop_load, ev_const, ev_tmp, Tr.get_put, put_some, Nat.reduceEqDiff, Option.getD_some, Nat.reduceAdd, Nat.zero_add, reduceCtorEq, if_true, if_false, load_new, cutC, dloadA_some, List.drop_zero, List.take_succ_cons, List.take_zero, List.length_cons, List.length_nil, Nat.beq_refl, List.map_cons, List.map_nil, thenC_normal, dLoad_agg agg26, cells26, dop_call call49]
  have hx := (HX.refl hw).new (some (Blk.row [Value.int IntKind.i64 t.kind, Value.string t.name, Value.string t.num, Value.int IntKind.u64 t.bits, Value.int IntKind.i64 t.var, Value.slice a t.args.length c] 26))
  refine (count_ref_ev (hk 49 · · (.inl rfl)) hm _ (Nat.lt_succ_self _) (r.mono hx hw) hx.wf 0 (by omega)).mono ?_
  rintro v H2 ⟨rfl, hx3⟩
  have hle := cnt_le _ t (Nat.lt_succ_self _) 0 (by omega)
  (repeat refine EvC.seq ?_); refine EvC.reg ?_
  simp (disch := omega) only [EL_cons, EL_nil, LX_val, dop_move, dop_bin, dBin_gtr, ev_const, ev_tmp, Tr.get_put, put_some, Nat.reduceEqDiff, Option.getD_some, reduceCtorEq, if_true, if_false, thenC_normal]
  by_cases hov : 4000 < cnt t 0
  · refine EvC.condT (by simp only [ev_tmp, Tr.get_put, Nat.reduceEqDiff, Option.getD_some, reduceCtorEq, if_true, if_false]; exact congrArg _ (decide_eq_true (by omega))) ?_
    (repeat refine EvC.seq ?_); refine EvC.reg ?_
    simp (disch := omega) only [EL_cons, EL_nil, LX_val, dop_assign, ev_const, put_some, thenC_normal]
    refine EvC.ret ?_
    simp only [thenC_ret]
    exact leave_one rfl (by simp only [Tr.get_put, Nat.reduceEqDiff, reduceCtorEq, if_true, if_false]; rfl) ⟨by rw [show cnt t 0 = 4001 by omega]; first | done | rfl, hx.trans hx3⟩
  · refine EvC.condF (by simp only [ev_tmp, Tr.get_put, Nat.reduceEqDiff, Option.getD_some, reduceCtorEq, if_true, if_false]; exact congrArg _ (decide_eq_false (by omega))) (EvC.skip ?_)
    simp only [thenC_normal]
    (repeat refine EvC.seq ?_); refine EvC.reg ?_
    simp (disch := omega) only [EL_cons, EL_nil, LX_val, dop_assign, dop_move, ev_tmp, Tr.get_put, put_some, Nat.reduceEqDiff, Option.getD_some, reduceCtorEq, if_true, if_false, thenC_normal]
    exact EvC.ret (leave_one rfl (by simp only [Tr.get_put, Nat.reduceEqDiff, reduceCtorEq, if_true, if_false]) ⟨rfl, hx.trans hx3⟩)
end Go.Proofs.YtlllbkjiadcloaaDoor.hb
end

-- W3
section
/- A node by itself: the fields that its kind does not use. -/
namespace Go.Proofs.YtlllbkjiadcloaaDoor.hb
open Go Go.RowKit Go.Hb

theorem fld26_0 : fldOf Tryd.prog 26 0 = some (0, 3) := by kernel_rfl
theorem fld26_1 : fldOf Tryd.prog 26 1 = some (1, 9) := by kernel_rfl
theorem fld26_2 : fldOf Tryd.prog 26 2 = some (2, 9) := by kernel_rfl
theorem fld26_3 : fldOf Tryd.prog 26 3 = some (3, 23) := by kernel_rfl
theorem fld26_4 : fldOf Tryd.prog 26 4 = some (4, 3) := by kernel_rfl
theorem one3 : Nat.beq (Tryd.prog.cellsOf 3) 0 = false := by kernel_rfl
theorem one9 : Nat.beq (Tryd.prog.cellsOf 9) 0 = false := by kernel_rfl
theorem one23 : Nat.beq (Tryd.prog.cellsOf 23) 0 = false := by kernel_rfl
theorem cells3 : Tryd.prog.cellsOf 3 = 1 := by kernel_rfl
theorem cells9 : Tryd.prog.cellsOf 9 = 1 := by kernel_rfl
theorem cells23 : Tryd.prog.cellsOf 23 = 1 := by kernel_rfl
theorem cells24 : Tryd.prog.cellsOf 24 = 1 := by kernel_rfl
theorem agg3 : isAgg? Tryd.prog 3 = some false := by kernel_rfl
theorem agg9 : isAgg? Tryd.prog 9 = some false := by kernel_rfl
theorem agg23 : isAgg? Tryd.prog 23 = some false := by kernel_rfl
theorem info3 : (Tryd.prog.info? 3).isSome = true := by kernel_rfl
theorem info9 : (Tryd.prog.info? 9).isSome = true := by kernel_rfl
theorem info23 : (Tryd.prog.info? 23).isSome = true := by kernel_rfl
theorem info24 : (Tryd.prog.info? 24).isSome = true := by kernel_rfl

theorem toList_empty : ByteArray.toList { data := #[] } = [] := by
  rw [ByteArray.toList, ByteArray.toList.loop]; rfl
def isE (s : ByteArray) : Bool := s.toList == []
/-- the fields that a kind does not use are their zero values -/
def blankB (t : Tm) : Bool :=
  (t.kind == 2 || t.kind == 5 || isE t.name) && (t.kind == 3 || isE t.num) && (t.kind == 4 || t.bits == 0) && (t.kind == 1 || t.var == 0) && (t.kind == 5 || (t.args.length : Int) == 0)

variable {ok : Ok}
set_option maxRecDepth 10000 in
set_option maxHeartbeats 2000000 in
theorem blank_ev (hk : ∀ args H, ok.K 100 args H = none) (hm : ok.testBit 100 = true) {t : Tm} {cs : List Value} {H : Heap} (r : RepT H t cs) (hw : H.wf) :
    EvF Tryd.prog ok 100 [.agg ⟨cs⟩] H fun v H' => v = .bool (blankB t) ∧ HX H H' := by
  obtain ⟨a, c, cells, rfl, b1, b2, b3, b4, b5, rl⟩ := r.inv
  refine EvF.enter (hk _ _) Tryd.func100 hm rfl ?_
  (repeat refine EvC.seq ?_); refine EvC.reg ?_
  simp (disch := omega) only [initTm, EL_cons, EL_nil, LX_val, dop_box, dBox, dop_assign, ev_const, ev_tmp, Tr.get_put, put_some, Option.getD_some, Value.cells, List.all_cons, List.all_nil, one, Bool.and_self, if_true, thenC_normal]
  (repeat refine EvC.seq ?_); refine EvC.reg ?_
  simp (disch := omega) only [EL_cons, EL_nil, LX_val, dop_load, dop_fieldAddr, ev_tmp, Tr.get_put, put_some, Nat.reduceEqDiff, Option.getD_some, Nat.add_zero, Nat.zero_add, reduceCtorEq, if_true, if_false, load_new, cutC, dload1_some, List.drop_zero, List.take_succ_cons, List.take_zero, List.length_cons, List.length_nil, Nat.beq_refl, thenC_normal, dFieldAddr_at fld26_0 one3, dLoad_one agg3]
  refine EvC.meet (fun st => ∃ tm H' nm nu b v a n c, st = ⟨tm, [], H'⟩ ∧ tm.get 1 = some (.pointer (some ⟨H.next, 0, none⟩)) ∧ H'.get H.next = some (.row [.int .i64 t.kind, .string nm, .string nu, .int .u64 b, .int .i64 v, .slice a n c] 26) ∧
    HX H H' ∧ (isE nm && isE nu && b == 0 && v == 0 && (n : Int) == 0) = blankB t) ?_ ?_
  · refine EvC.block ?_
    have hx0 := (HX.refl hw).new (some (Blk.row [Value.int IntKind.i64 t.kind, Value.string t.name, Value.string t.num, Value.int IntKind.u64 t.bits, Value.int IntKind.i64 t.var, Value.slice a t.args.length c] 26))
    have hxp : ∀ B, HX H ((H.new (some (Blk.row [Value.int IntKind.i64 t.kind, Value.string t.name, Value.string t.num, Value.int IntKind.u64 t.bits, Value.int IntKind.i64 t.var, Value.slice a t.args.length c] 26))).put H.next B) := fun B => hx0.put (Nat.le_refl _) (Nat.lt_succ_self _) B
    (repeat refine EvC.seq ?_); refine EvC.reg ?_
    simp (disch := omega) only [EL_cons, EL_nil, LX_val, dop_assign, dop_bin, ev_const, ev_tmp, Tr.get_put, put_some, Nat.reduceEqDiff, Option.getD_some, reduceCtorEq, if_true, if_false, thenC_normal, dBin_eql]
    by_cases k1 : t.kind = 1
    · refine EvC.condT (by simp only [ev_tmp, Tr.get_put, Nat.reduceEqDiff, Option.getD_some, reduceCtorEq, if_true, if_false]; rw [k1]; rfl) ?_
      (repeat refine EvC.seq ?_); refine EvC.reg ?_
      simp (disch := omega) only [EL_cons, EL_nil, LX_val, dop_store, dop_fieldAddr, ev_const, ev_tmp, Tr.get_put, put_some, put_none, Nat.reduceEqDiff, Option.getD_some, Nat.reduceAdd, Nat.zero_add, List.all_cons, List.all_nil, one, Bool.and_self, reduceCtorEq, if_true, if_false, get_new, List.drop_succ_cons, List.drop_zero, List.length_cons, List.length_nil, dStoreB_row, splice_zero, splice_succ, List.cons_append, List.nil_append, Nat.reduceLeDiff, and_self, true_and, inBlock_normal, dFieldAddr_at fld26_4 one3, dStore_int info3 cells3]
      exact ⟨_, _, t.name, t.num, t.bits, 0, a, t.args.length, c, rfl, by simp only [Tr.get_put, Nat.reduceEqDiff, reduceCtorEq, if_true, if_false], by simp only [if_true, get_new, get_put], hxp _, by simp [blankB, k1]⟩
    refine EvC.condF (by simp only [ev_tmp, Tr.get_put, Nat.reduceEqDiff, Option.getD_some, reduceCtorEq, if_true, if_false]; rw [show (t.kind == 1) = false by simpa using k1]) ?_
    (repeat refine EvC.seq ?_); refine EvC.reg ?_
    simp (disch := omega) only [EL_cons, EL_nil, LX_val, dop_assign, dop_bin, ev_const, ev_tmp, Tr.get_put, put_some, Nat.reduceEqDiff, Option.getD_some, reduceCtorEq, if_true, if_false, thenC_normal, dBin_eql]
    by_cases k2 : t.kind = 2
    · refine EvC.condT (by simp only [ev_tmp, Tr.get_put, Nat.reduceEqDiff, Option.getD_some, reduceCtorEq, if_true, if_false]; rw [k2]; rfl) ?_
      (repeat refine EvC.seq ?_); refine EvC.reg ?_
      simp (disch := omega) only [EL_cons, EL_nil, LX_val, dop_store, dop_fieldAddr, ev_const, ev_tmp, Tr.get_put, put_some, put_none, Nat.reduceEqDiff, Option.getD_some, Nat.reduceAdd, Nat.zero_add, List.all_cons, List.all_nil, one, Bool.and_self, reduceCtorEq, if_true, if_false, get_new, List.drop_succ_cons, List.drop_zero, List.length_cons, List.length_nil, dStoreB_row, splice_zero, splice_succ, List.cons_append, List.nil_append, Nat.reduceLeDiff, and_self, true_and, inBlock_normal, dFieldAddr_at fld26_1 one9, dStore_string info9 cells9]
      exact ⟨_, _, ByteArray.empty, t.num, t.bits, t.var, a, t.args.length, c, rfl, by simp only [Tr.get_put, Nat.reduceEqDiff, reduceCtorEq, if_true, if_false], by simp only [if_true, get_new, get_put]; rfl, hxp _, by simp [blankB, k2, isE]⟩
    refine EvC.condF (by simp only [ev_tmp, Tr.get_put, Nat.reduceEqDiff, Option.getD_some, reduceCtorEq, if_true, if_false]; rw [show (t.kind == 2) = false by simpa using k2]) ?_
    (repeat refine EvC.seq ?_); refine EvC.reg ?_
    simp (disch := omega) only [EL_cons, EL_nil, LX_val, dop_assign, dop_bin, ev_const, ev_tmp, Tr.get_put, put_some, Nat.reduceEqDiff, Option.getD_some, reduceCtorEq, if_true, if_false, thenC_normal, dBin_eql]
    by_cases k3 : t.kind = 3
    · refine EvC.condT (by simp only [ev_tmp, Tr.get_put, Nat.reduceEqDiff, Option.getD_some, reduceCtorEq, if_true, if_false]; rw [k3]; rfl) ?_
      (repeat refine EvC.seq ?_); refine EvC.reg ?_
      simp (disch := omega) only [EL_cons, EL_nil, LX_val, dop_store, dop_fieldAddr, ev_const, ev_tmp, Tr.get_put, put_some, put_none, Nat.reduceEqDiff, Option.getD_some, Nat.reduceAdd, Nat.zero_add, List.all_cons, List.all_nil, one, Bool.and_self, reduceCtorEq, if_true, if_false, get_new, List.drop_succ_cons, List.drop_zero, List.length_cons, List.length_nil, dStoreB_row, splice_zero, splice_succ, List.cons_append, List.nil_append, Nat.reduceLeDiff, and_self, true_and, inBlock_normal, dFieldAddr_at fld26_2 one9, dStore_string info9 cells9]
      exact ⟨_, _, t.name, ByteArray.empty, t.bits, t.var, a, t.args.length, c, rfl, by simp only [Tr.get_put, Nat.reduceEqDiff, reduceCtorEq, if_true, if_false], by simp only [if_true, get_new, get_put]; rfl, hxp _, by simp [blankB, k3, isE]⟩
    refine EvC.condF (by simp only [ev_tmp, Tr.get_put, Nat.reduceEqDiff, Option.getD_some, reduceCtorEq, if_true, if_false]; rw [show (t.kind == 3) = false by simpa using k3]) ?_
    (repeat refine EvC.seq ?_); refine EvC.reg ?_
    simp (disch := omega) only [EL_cons, EL_nil, LX_val, dop_assign, dop_bin, ev_const, ev_tmp, Tr.get_put, put_some, Nat.reduceEqDiff, Option.getD_some, reduceCtorEq, if_true, if_false, thenC_normal, dBin_eql]
    by_cases k4 : t.kind = 4
    · refine EvC.condT (by simp only [ev_tmp, Tr.get_put, Nat.reduceEqDiff, Option.getD_some, reduceCtorEq, if_true, if_false]; rw [k4]; rfl) ?_
      (repeat refine EvC.seq ?_); refine EvC.reg ?_
      simp (disch := omega) only [EL_cons, EL_nil, LX_val, dop_store, dop_fieldAddr, ev_const, ev_tmp, Tr.get_put, put_some, put_none, Nat.reduceEqDiff, Option.getD_some, Nat.reduceAdd, Nat.zero_add, List.all_cons, List.all_nil, one, Bool.and_self, reduceCtorEq, if_true, if_false, get_new, List.drop_succ_cons, List.drop_zero, List.length_cons, List.length_nil, dStoreB_row, splice_zero, splice_succ, List.cons_append, List.nil_append, Nat.reduceLeDiff, and_self, true_and, inBlock_normal, dFieldAddr_at fld26_3 one23, dStore_int info23 cells23]
      exact ⟨_, _, t.name, t.num, 0, t.var, a, t.args.length, c, rfl, by simp only [Tr.get_put, Nat.reduceEqDiff, reduceCtorEq, if_true, if_false], by simp only [if_true, get_new, get_put], hxp _, by simp [blankB, k4]⟩
    refine EvC.condF (by simp only [ev_tmp, Tr.get_put, Nat.reduceEqDiff, Option.getD_some, reduceCtorEq, if_true, if_false]; rw [show (t.kind == 4) = false by simpa using k4]) ?_
    (repeat refine EvC.seq ?_); refine EvC.reg ?_
    simp (disch := omega) only [EL_cons, EL_nil, LX_val, dop_assign, dop_bin, ev_const, ev_tmp, Tr.get_put, put_some, Nat.reduceEqDiff, Option.getD_some, reduceCtorEq, if_true, if_false, thenC_normal, dBin_eql]
    by_cases k5 : t.kind = 5
    · refine EvC.condT (by simp only [ev_tmp, Tr.get_put, Nat.reduceEqDiff, Option.getD_some, reduceCtorEq, if_true, if_false]; rw [k5]; rfl) ?_
      (repeat refine EvC.seq ?_); refine EvC.reg ?_
      simp (disch := omega) only [EL_cons, EL_nil, LX_val, dop_store, dop_fieldAddr, ev_const, ev_tmp, Tr.get_put, put_some, put_none, Nat.reduceEqDiff, Option.getD_some, Nat.reduceAdd, Nat.zero_add, List.all_cons, List.all_nil, one, Bool.and_self, reduceCtorEq, if_true, if_false, get_new, get_put, List.drop_succ_cons, List.drop_zero, List.length_cons, List.length_nil, dStoreB_row, splice_zero, splice_succ, List.cons_append, List.nil_append, List.append_nil, Nat.reduceLeDiff, Nat.le_refl, and_self, true_and, List.drop_nil, inBlock_normal, dFieldAddr_at fld26_1 one9, dFieldAddr_at fld26_5 one24, dStore_string info9 cells9, dStore_slice info24 cells24]
      exact ⟨_, _, ByteArray.empty, t.num, t.bits, t.var, none, 0, 0, rfl, by simp only [Tr.get_put, Nat.reduceEqDiff, reduceCtorEq, if_true, if_false], by simp only [if_true, get_new, get_put]; rfl, (hxp _).put (Nat.le_refl _) (Nat.lt_succ_self _) _, by simp [blankB, k5, isE]⟩
    refine EvC.condF (by simp only [ev_tmp, Tr.get_put, Nat.reduceEqDiff, Option.getD_some, reduceCtorEq, if_true, if_false]; rw [show (t.kind == 5) = false by simpa using k5]) (EvC.skip ?_)
    exact ⟨rfl, _, _, t.name, t.num, t.bits, t.var, a, t.args.length, c, rfl, by simp only [Tr.get_put, Nat.reduceEqDiff, reduceCtorEq, if_true, if_false], by simp only [if_true, get_new], hx0, by simp [blankB, show (t.kind == 1) = false by simpa using k1, show (t.kind == 2) = false by simpa using k2, show (t.kind == 3) = false by simpa using k3, show (t.kind == 4) = false by simpa using k4, show (t.kind == 5) = false by simpa using k5]⟩
  · rintro st ⟨tm, H', nm, nu, b, v, a, n, c, rfl, g1, hrow, hx, hres⟩
    simp only [thenC_normal]
    have l1 : H'.load ⟨H.next, 1, none⟩ 1 = some [.string nm] := by simp only [Heap.load, Heap.cells, hrow]; rfl
    have l2 : H'.load ⟨H.next, 2, none⟩ 1 = some [.string nu] := by simp only [Heap.load, Heap.cells, hrow]; rfl
    have l3 : H'.load ⟨H.next, 3, none⟩ 1 = some [.int .u64 b] := by simp only [Heap.load, Heap.cells, hrow]; rfl
    have l4 : H'.load ⟨H.next, 4, none⟩ 1 = some [.int .i64 v] := by simp only [Heap.load, Heap.cells, hrow]; rfl
    have l5 : H'.load ⟨H.next, 5, none⟩ 1 = some [.slice a n c] := by simp only [Heap.load, Heap.cells, hrow]; rfl
    (repeat refine EvC.seq ?_); refine EvC.reg ?_
    unfold isE at hres
    cases h1 : (nm.toList == []) with
    | false =>
      simp (disch := omega) only [EL_cons, EL_nil, EL_guard, LX_val, LG_tf, dop_assign, dop_move, dop_pick, dPick_bool, dop_load, dop_fieldAddr, dop_bin, ev_const, ev_tmp, Tr.get_put, put_some, Nat.reduceEqDiff, Option.getD_some, Nat.zero_add, if_true, if_false, dload1_some, thenC_normal, guardOf_eq, guardGet_some, List.getElem?_cons_succ, List.getElem?_cons_zero, dBin_eqlS, g1, dFieldAddr_at fld26_1 one9, dLoad_one agg9, l1, toList_empty, h1, Bool.false_eq_true]
      exact EvC.ret (leave_one rfl (by simp only [Tr.get_put, Nat.reduceEqDiff, if_true, if_false]; rfl) ⟨by rw [← hres, h1]; rfl, hx⟩)
    | true =>
    cases h2 : (nu.toList == []) with
    | false =>
      simp (disch := omega) only [EL_cons, EL_nil, EL_guard, LX_val, LG_tt, LG_tf, dop_assign, dop_move, dop_pick, dPick_bool, dop_load, dop_fieldAddr, dop_bin, ev_const, ev_tmp, Tr.get_put, put_some, Nat.reduceEqDiff, Option.getD_some, Nat.zero_add, if_true, if_false, dload1_some, thenC_normal, guardOf_eq, guardGet_some, List.getElem?_cons_succ, List.getElem?_cons_zero, dBin_eqlS, g1, dFieldAddr_at fld26_1 one9, dFieldAddr_at fld26_2 one9, dLoad_one agg9, l1, l2, toList_empty, Bool.false_eq_true, h1, h2]
      exact EvC.ret (leave_one rfl (by simp only [Tr.get_put, Nat.reduceEqDiff, if_true, if_false]; rfl) ⟨by rw [← hres, h1, h2]; rfl, hx⟩)
    | true =>
    cases h3 : (b == 0) with
    | false =>
      simp (disch := omega) only [EL_cons, EL_nil, EL_guard, LX_val, LG_tt, LG_tf, dop_assign, dop_move, dop_pick, dPick_bool, dop_load, dop_fieldAddr, dop_bin, ev_const, ev_tmp, Tr.get_put, put_some, Nat.reduceEqDiff, Option.getD_some, Nat.zero_add, if_true, if_false, dload1_some, thenC_normal, guardOf_eq, guardGet_some, List.getElem?_cons_succ, List.getElem?_cons_zero, dBin_eql, dBin_eqlS, g1, dFieldAddr_at fld26_1 one9, dFieldAddr_at fld26_2 one9, dFieldAddr_at fld26_3 one23, dLoad_one agg9, dLoad_one agg23, l1, l2, l3, toList_empty, Bool.false_eq_true, h1, h2, h3]
      exact EvC.ret (leave_one rfl (by simp only [Tr.get_put, Nat.reduceEqDiff, if_true, if_false]; rfl) ⟨by rw [← hres, h1, h2, h3]; rfl, hx⟩)
    | true =>
    cases h4 : (v == 0) with
    | false =>
      simp (disch := omega) only [EL_cons, EL_nil, EL_guard, LX_val, LG_tt, LG_tf, dop_assign, dop_move, dop_pick, dPick_bool, dop_load, dop_fieldAddr, dop_bin, ev_const, ev_tmp, Tr.get_put, put_some, Nat.reduceEqDiff, Option.getD_some, Nat.zero_add, if_true, if_false, dload1_some, thenC_normal, guardOf_eq, guardGet_some, List.getElem?_cons_succ, List.getElem?_cons_zero, dBin_eql, dBin_eqlS, g1, dFieldAddr_at fld26_1 one9, dFieldAddr_at fld26_2 one9, dFieldAddr_at fld26_3 one23, dFieldAddr_at fld26_4 one3, dLoad_one agg9, dLoad_one agg3, dLoad_one agg23, l1, l2, l3, l4, toList_empty, Bool.false_eq_true, h1, h2, h3, h4]
      exact EvC.ret (leave_one rfl (by simp only [Tr.get_put, Nat.reduceEqDiff, if_true, if_false]; rfl) ⟨by rw [← hres, h1, h2, h3, h4]; rfl, hx⟩)
    | true =>
      simp (disch := omega) only [EL_cons, EL_nil, EL_guard, LX_val, LG_tt, dop_assign, dop_move, dop_pick, dPick_bool, dop_load, dop_fieldAddr, dop_bin, ev_const, ev_tmp, Tr.get_put, put_some, Nat.reduceEqDiff, Option.getD_some, Nat.zero_add, if_true, if_false, dload1_some, thenC_normal, guardOf_eq, guardGet_some, List.getElem?_cons_succ, List.getElem?_cons_zero, dBin_eql, dBin_eqlS, dop_len, g1, dFieldAddr_at fld26_1 one9, dFieldAddr_at fld26_2 one9, dFieldAddr_at fld26_3 one23, dFieldAddr_at fld26_4 one3, dFieldAddr_at fld26_5 one24, dLoad_one agg9, dLoad_one agg3, dLoad_one agg23, dLoad_one agg24, l1, l2, l3, l4, l5, toList_empty, dLn_slice Tryd.underlying24, h1, h2, h3, h4]
      exact EvC.ret (leave_one rfl (by simp only [Tr.get_put, Nat.reduceEqDiff, if_true, if_false]; rfl) ⟨by rw [← hres, h1, h2, h3, h4]; rfl, hx⟩)
end Go.Proofs.YtlllbkjiadcloaaDoor.hb
end

-- W4
section
/- A node by itself: what is wrong with it. -/
namespace Go.Proofs.YtlllbkjiadcloaaDoor.hb
open Go Go.RowKit Go.Hb

/-- what is wrong with a node alone; 'utf': is a name well formed? 'num': is a text an integer's? 'flt': are bits a float's? -/
def nodeE (utf num : ByteArray → Bool) (flt : Int → Bool) (t : Tm) : Int :=
  if t.kind < 1 ∨ 5 < t.kind then 20 else if blankB t = false then 20 else if t.var < 0 then 20 else if t.kind = 5 ∧ (t.args.length = 0 ∨ 64 < t.args.length) then 20
  else if utf t.name = false then 21 else if 1000 < t.name.size then 21 else if t.kind = 3 ∧ num t.num = false then 22 else if t.kind = 4 ∧ flt t.bits = false then 23 else 0

def bndB (t : Tm) : Bool := decide (t.var < 0) || (t.kind == 5 && ((t.args.length : Int) == 0 || decide ((t.args.length : Int) > 64)))
theorem nodeE_bnd {utf num : ByteArray → Bool} {flt : Int → Bool} {t : Tm} (h1 : ¬ (t.kind < 1 ∨ 5 < t.kind)) (h2 : blankB t = true) (h3 : bndB t = true) : nodeE utf num flt t = 20 := by
  rw [nodeE, if_neg h1, if_neg (by rw [h2]; simp)]
  unfold bndB at h3
  simp only [Bool.or_eq_true, Bool.and_eq_true, beq_iff_eq, decide_eq_true_eq] at h3
  by_cases hv : t.var < 0
  · rw [if_pos hv]
  · rw [if_neg hv, if_pos]
    rcases h3 with h | ⟨h, h' | h'⟩
    · exact absurd h hv
    · exact ⟨h, .inl (by omega)⟩
    · exact ⟨h, .inr (by omega)⟩
theorem nodeE_rest {utf num : ByteArray → Bool} {flt : Int → Bool} {t : Tm} (h1 : ¬ (t.kind < 1 ∨ 5 < t.kind)) (h2 : blankB t = true) (h3 : bndB t = false) :
    nodeE utf num flt t = if utf t.name = false then 21 else if 1000 < t.name.size then 21 else if t.kind = 3 ∧ num t.num = false then 22 else if t.kind = 4 ∧ flt t.bits = false then 23 else 0 := by
  rw [nodeE, if_neg h1, if_neg (by rw [h2]; simp)]
  unfold bndB at h3
  simp only [Bool.or_eq_false_iff, Bool.and_eq_false_iff, beq_eq_false_iff_ne, decide_eq_false_iff_not] at h3
  rw [if_neg h3.1, if_neg (fun h => by rcases h3.2 with h' | h' <;> first | exact h' h.1 | (have := h.2; omega))]

theorem call100 : callable Tryd.prog 100 = true := by kernel_rfl
theorem call101 : callable Tryd.prog 101 = true := by kernel_rfl
theorem call102 : callable Tryd.prog 102 = true := by kernel_rfl
theorem call105 : callable Tryd.prog 105 = true := by kernel_rfl
theorem call106 : callable Tryd.prog 106 = true := by kernel_rfl
theorem call107 : callable Tryd.prog 107 = true := by kernel_rfl

/-- a call that tells a Bool of a text, and leaves all as it is -/
def TellsS (ok : Ok) (f : FuncId) (g : ByteArray → Bool) : Prop := ∀ (s : ByteArray) (H : Heap), s.size ≤ maxLen → H.wf → EvF Tryd.prog ok f [.string s] H fun v H' => v = .bool (g s) ∧ HX H H'
def TellsU (ok : Ok) (f : FuncId) (g : Int → Bool) : Prop := ∀ (n : Int) (H : Heap), u64 n → H.wf → EvF Tryd.prog ok f [.int .u64 n] H fun v H' => v = .bool (g n) ∧ HX H H'

variable {ok : Ok}
set_option maxRecDepth 10000 in
set_option maxHeartbeats 4000000 in
theorem one_ev {utf num : ByteArray → Bool} {flt : Int → Bool} (hk : ∀ args H, ok.K 85 args H = none) (hm : ok.testBit 85 = true) (hU : TellsS ok 105 utf) (hN : TellsS ok 106 num) (hF : TellsU ok 107 flt)
    {t : Tm} {cs : List Value} {H : Heap} (r : RepT H t cs) (hw : H.wf) : EvF Tryd.prog ok 85 [.agg ⟨cs⟩] H fun v H' => v = .int .i64 (nodeE utf num flt t) ∧ HX H H' := by
  obtain ⟨a, c, cells, rfl, b1, b2, b3, b4, b5, rl⟩ := r.inv
  have hx := (HX.refl hw).new (some (Blk.row [Value.int IntKind.i64 t.kind, Value.string t.name, Value.string t.num, Value.int IntKind.u64 t.bits, Value.int IntKind.i64 t.var, Value.slice a t.args.length c] 26))
  refine EvF.enter (hk _ _) Tryd.func85 hm rfl ?_
  (repeat refine EvC.seq ?_); refine EvC.reg ?_; simp (config := { maxSteps := 2000000 }) (disch := omega) only [initTm, EL_cons, EL_nil, LX_val, dop_box, dBox, dop_assign, ev_const, ev_tmp, Tr.get_put, put_some, Option.getD_some, Value.cells, List.all_cons, List.all_nil, one, Bool.and_self, if_true, thenC_normal]
  (repeat refine EvC.seq ?_); refine EvC.reg ?_; simp (config := { maxSteps := 2000000 }) (disch := omega) only [EL_cons, EL_nil, LX_val, dop_assign, dop_load, dop_fieldAddr, dop_bin, ev_const, ev_tmp, Tr.get_put, put_some, Nat.reduceEqDiff, Option.getD_some, Nat.add_zero, Nat.zero_add, reduceCtorEq, if_true, if_false, load_new, cutC, dload1_some, List.drop_zero, List.take_succ_cons, List.take_zero, List.length_cons, List.length_nil, Nat.beq_refl, thenC_normal, dBin_eql, dFieldAddr_at fld26_0 one3, dLoad_one agg3]
  (repeat refine EvC.seq ?_); refine EvC.reg ?_; simp (config := { maxSteps := 2000000 }) (disch := omega) only [EL_cons, EL_nil, LX_val, dop_assign, dop_load, dop_fieldAddr, dop_bin, ev_const, ev_tmp, Tr.get_put, put_some, Nat.reduceEqDiff, Option.getD_some, Nat.add_zero, Nat.zero_add, reduceCtorEq, if_true, if_false, load_new, cutC, dload1_some, List.drop_zero, List.take_succ_cons, List.take_zero, List.length_cons, List.length_nil, Nat.beq_refl, thenC_normal, dBin_eql, dFieldAddr_at fld26_0 one3, dLoad_one agg3]
  (repeat refine EvC.seq ?_); refine EvC.reg ?_; simp (config := { maxSteps := 2000000 }) (disch := omega) only [EL_cons, EL_nil, LX_val, dop_assign, dop_load, dop_fieldAddr, dop_bin, ev_const, ev_tmp, Tr.get_put, put_some, Nat.reduceEqDiff, Option.getD_some, Nat.add_zero, Nat.zero_add, reduceCtorEq, if_true, if_false, load_new, cutC, dload1_some, List.drop_zero, List.take_succ_cons, List.take_zero, List.length_cons, List.length_nil, Nat.beq_refl, thenC_normal, dBin_eql, dFieldAddr_at fld26_0 one3, dLoad_one agg3]
  (repeat refine EvC.seq ?_); refine EvC.reg ?_; simp (config := { maxSteps := 2000000 }) (disch := omega) only [EL_cons, EL_nil, LX_val, dop_assign, dop_load, dop_fieldAddr, dop_bin, ev_const, ev_tmp, Tr.get_put, put_some, Nat.reduceEqDiff, Option.getD_some, Nat.add_zero, Nat.zero_add, reduceCtorEq, if_true, if_false, load_new, cutC, dload1_some, List.drop_zero, List.take_succ_cons, List.take_zero, List.length_cons, List.length_nil, Nat.beq_refl, thenC_normal, dBin_eql, dFieldAddr_at fld26_0 one3, dLoad_one agg3]
  (repeat refine EvC.seq ?_); refine EvC.reg ?_; simp (config := { maxSteps := 2000000 }) (disch := omega) only [EL_cons, EL_nil, LX_val, dop_assign, dop_load, dop_fieldAddr, dop_bin, ev_const, ev_tmp, Tr.get_put, put_some, Nat.reduceEqDiff, Option.getD_some, Nat.add_zero, Nat.zero_add, reduceCtorEq, if_true, if_false, load_new, cutC, dload1_some, List.drop_zero, List.take_succ_cons, List.take_zero, List.length_cons, List.length_nil, Nat.beq_refl, thenC_normal, dBin_eql, dFieldAddr_at fld26_0 one3, dLoad_one agg3]
  -- the kind
  refine EvC.frame (fun tm => tm.get 1 = some (.pointer (some ⟨H.next, 0, none⟩)) ∧ tm.get 3 = some (.bool (t.kind == 2)) ∧ tm.get 4 = some (.bool (t.kind == 5)) ∧ tm.get 5 = some (.bool (t.kind == 3)) ∧ tm.get 6 = some (.bool (t.kind == 4)) ∧ tm.get 7 = some (.bool (t.kind == 1))) ⟨by simp only [Tr.get_put, Nat.reduceEqDiff, reduceCtorEq, if_true, if_false], by simp only [Tr.get_put, Nat.reduceEqDiff, reduceCtorEq, if_true, if_false], by simp only [Tr.get_put, Nat.reduceEqDiff, reduceCtorEq, if_true, if_false], by simp only [Tr.get_put, Nat.reduceEqDiff, reduceCtorEq, if_true, if_false], by simp only [Tr.get_put, Nat.reduceEqDiff, reduceCtorEq, if_true, if_false], by simp only [Tr.get_put, Nat.reduceEqDiff, reduceCtorEq, if_true, if_false]⟩ ?_
  rintro tm ⟨g1, g3, g4, g5, g6, g7⟩
  refine EvC.seq ?_
  refine EvC.join (fun st => (1 ≤ t.kind ∧ t.kind ≤ 5) ∧ ∃ tm, st = ⟨tm, [], H.new (some (Blk.row [Value.int IntKind.i64 t.kind, Value.string t.name, Value.string t.num, Value.int IntKind.u64 t.bits, Value.int IntKind.i64 t.var, Value.slice a t.args.length c] 26))⟩ ∧ tm.get 1 = some (.pointer (some ⟨H.next, 0, none⟩)) ∧ tm.get 3 = some (.bool (t.kind == 2)) ∧ tm.get 4 = some (.bool (t.kind == 5)) ∧ tm.get 5 = some (.bool (t.kind == 3)) ∧ tm.get 6 = some (.bool (t.kind == 4)) ∧ tm.get 7 = some (.bool (t.kind == 1))) ?_ ?_
  · -- [
    have hk6 : t.kind = 1 ∨ t.kind = 2 ∨ t.kind = 3 ∨ t.kind = 4 ∨ t.kind = 5 ∨ (t.kind < 1 ∨ 5 < t.kind) := by omega
    rcases hk6 with h | h | h | h | h | h
    iterate 5
      · (repeat refine EvC.seq ?_); refine EvC.reg ?_; simp (config := { maxSteps := 2000000 }) (disch := omega) only [EL_cons, EL_nil, EL_guard, LX_val, LG_tt, LG_tf, dop_move, dop_pick, dPick_bool, ev_const, ev_tmp, Tr.get_put, put_some, Nat.reduceEqDiff, Option.getD_some, if_true, if_false, thenC_normal, guardOf_eq, guardGet_some, List.getElem?_cons_succ, List.getElem?_cons_zero, dop_un, un_not, g3, g4, g5, g6, g7, h, Int.reduceBEq, Bool.not_true, Bool.not_false, Bool.false_eq_true]
        refine EvC.condF (by simp only [ev_tmp, Tr.get_put, Nat.reduceEqDiff, Option.getD_some, if_true, if_false]) (EvC.skip ?_)
        try simp (config := { maxSteps := 2000000 }) (disch := omega) only [thenC_normal]
        exact ⟨by omega, _, rfl, by simp only [Tr.get_put, Nat.reduceEqDiff, if_false, g1], by simp only [Tr.get_put, Nat.reduceEqDiff, if_false, g3, h, Int.reduceBEq], by simp only [Tr.get_put, Nat.reduceEqDiff, if_false, g4, h, Int.reduceBEq], by simp only [Tr.get_put, Nat.reduceEqDiff, if_false, g5, h, Int.reduceBEq], by simp only [Tr.get_put, Nat.reduceEqDiff, if_false, g6, h, Int.reduceBEq], by simp only [Tr.get_put, Nat.reduceEqDiff, if_false, g7, h, Int.reduceBEq]⟩
    · have q1 : (t.kind == 1) = false := by simp; omega
      have q2 : (t.kind == 2) = false := by simp; omega
      have q3 : (t.kind == 3) = false := by simp; omega
      have q4 : (t.kind == 4) = false := by simp; omega
      have q5 : (t.kind == 5) = false := by simp; omega
      (repeat refine EvC.seq ?_); refine EvC.reg ?_; simp (config := { maxSteps := 2000000 }) (disch := omega) only [EL_cons, EL_nil, EL_guard, LX_val, LG_tt, dop_move, dop_pick, dPick_bool, ev_const, ev_tmp, Tr.get_put, put_some, Nat.reduceEqDiff, Option.getD_some, if_true, if_false, thenC_normal, guardOf_eq, guardGet_some, List.getElem?_cons_succ, List.getElem?_cons_zero, dop_un, un_not, g3, g4, g5, g6, g7, q1, q2, q3, q4, q5, Bool.not_false]
      refine EvC.condT (by simp only [ev_tmp, Tr.get_put, Nat.reduceEqDiff, Option.getD_some, if_true, if_false]) ?_
      (repeat refine EvC.seq ?_); refine EvC.reg ?_; simp (config := { maxSteps := 2000000 }) (disch := omega) only [EL_cons, EL_nil, LX_val, dop_assign, ev_const, put_some, thenC_normal]
      refine EvC.ret ?_
      try simp (config := { maxSteps := 2000000 }) (disch := omega) only [thenC_ret]
      exact leave_one rfl (by simp only [Tr.get_put, Nat.reduceEqDiff, if_true, if_false]; rfl) ⟨by rw [nodeE, if_pos h], hx⟩
    -- ]
  rintro st ⟨⟨hk1, hk5⟩, tm1, rfl, f1, f3, f4, f5, f6, f7⟩
  clear g1 g3 g4 g5 g6 g7 tm
  have hno : ¬ (t.kind < 1 ∨ 5 < t.kind) := by omega
  try simp (config := { maxSteps := 2000000 }) (disch := omega) only [thenC_normal]
  -- the fields that are not used
  refine EvC.seq ?_
  refine EvC.join (fun st => blankB t = true ∧ ∃ tm, st = ⟨tm, [], H.new (some (Blk.row [Value.int IntKind.i64 t.kind, Value.string t.name, Value.string t.num, Value.int IntKind.u64 t.bits, Value.int IntKind.i64 t.var, Value.slice a t.args.length c] 26))⟩ ∧ tm.get 1 = some (.pointer (some ⟨H.next, 0, none⟩)) ∧ tm.get 3 = some (.bool (t.kind == 2)) ∧ tm.get 4 = some (.bool (t.kind == 5)) ∧ tm.get 5 = some (.bool (t.kind == 3)) ∧ tm.get 6 = some (.bool (t.kind == 4)) ∧ tm.get 7 = some (.bool (t.kind == 1))) ?_ ?_
  · -- [
    refine EvC.seq (EvC.reg ?_)
    refine EL.join 11 (fun tm => tm.get 54 = some (.bool (!(t.name.toList == []) && (!(t.kind == 2) && !(t.kind == 5)))) ∧ tm.get 1 = some (.pointer (some ⟨H.next, 0, none⟩)) ∧ tm.get 3 = some (.bool (t.kind == 2)) ∧ tm.get 4 = some (.bool (t.kind == 5)) ∧ tm.get 5 = some (.bool (t.kind == 3)) ∧ tm.get 6 = some (.bool (t.kind == 4)) ∧ tm.get 7 = some (.bool (t.kind == 1))) ?_ ?_
    · cases h1 : (t.name.toList == []) <;> cases h2 : (t.kind == 2) <;> cases h3 : (t.kind == 5)
      all_goals
        try simp (config := { maxSteps := 2000000 }) (disch := omega) only [EL_cons, EL_nil, EL_guard, LX_val, LG_tt, LG_tf, dop_move, dop_pick, dPick_bool, dop_load, dop_fieldAddr, dop_bin, ev_const, ev_tmp, Tr.get_put, put_some, Nat.reduceEqDiff, Option.getD_some, Nat.zero_add, Bool.and_self, if_true, if_false, load_new, cutC, dload1_some, List.drop_succ_cons, List.drop_zero, List.take_succ_cons, List.take_zero, List.length_cons, List.length_nil, Nat.beq_refl, and_self, guardOf_eq, guardGet_some, List.getElem?_cons_succ, List.getElem?_cons_zero, dBin_neqS, dop_un, un_not, f1, f3, f4, f5, f6, f7, h1, h2, h3, dFieldAddr_at fld26_1 one9, dLoad_one agg9, toList_empty, Bool.not_true, Bool.not_false, Bool.false_eq_true, Bool.and_true, Bool.and_false]
    clear f1 f3 f4 f5 f6 f7
    rintro tm2 ⟨g, f1, f3, f4, f5, f6, f7⟩
    obtain ⟨x0, hy0⟩ : ∃ x, x = (!(t.name.toList == []) && (!(t.kind == 2) && !(t.kind == 5))) := ⟨_, rfl⟩
    rw [← hy0] at g
    refine EL.join 9 (fun tm => tm.get 63 = some (.bool (x0 || (!(t.num.toList == []) && !(t.kind == 3)))) ∧ tm.get 1 = some (.pointer (some ⟨H.next, 0, none⟩)) ∧ tm.get 3 = some (.bool (t.kind == 2)) ∧ tm.get 4 = some (.bool (t.kind == 5)) ∧ tm.get 5 = some (.bool (t.kind == 3)) ∧ tm.get 6 = some (.bool (t.kind == 4)) ∧ tm.get 7 = some (.bool (t.kind == 1))) ?_ ?_
    · clear hy0; cases h1 : (t.num.toList == []) <;> cases h2 : (t.kind == 3) <;> cases x0
      all_goals
        try simp (config := { maxSteps := 2000000 }) (disch := omega) only [EL_cons, EL_nil, EL_guard, LX_val, LG_tt, LG_ff, LG_tf, LG_ft, LG_undef, dop_move, dop_pick, dPick_bool, dop_load, dop_fieldAddr, dop_bin, ev_const, ev_tmp, Tr.get_put, put_some, Nat.reduceEqDiff, Option.getD_some, Nat.zero_add, Bool.and_self, if_true, if_false, load_new, cutC, dload1_some, List.drop_succ_cons, List.drop_zero, List.take_succ_cons, List.take_zero, List.length_cons, List.length_nil, Nat.beq_refl, and_self, guardOf_eq, guardGet_some, List.getElem?_cons_succ, List.getElem?_cons_zero, dBin_neqS, dop_un, un_not, g, f1, f3, f4, f5, f6, f7, h1, h2, dFieldAddr_at fld26_2 one9, dLoad_one agg9, toList_empty, Bool.not_true, Bool.not_false, Bool.false_eq_true, Bool.and_true, Bool.and_false, Bool.or_false, Bool.or_true]
    clear f1 f3 f4 f5 f6 f7 g
    rintro tm3 ⟨g, f1, f3, f4, f5, f6, f7⟩
    obtain ⟨x1, hx1⟩ : ∃ x, x = (x0 || (!(t.num.toList == []) && !(t.kind == 3))) := ⟨_, rfl⟩
    rw [← hx1] at g
    refine EL.join 9 (fun tm => tm.get 72 = some (.bool (x1 || (!(t.bits == 0) && !(t.kind == 4)))) ∧ tm.get 1 = some (.pointer (some ⟨H.next, 0, none⟩)) ∧ tm.get 3 = some (.bool (t.kind == 2)) ∧ tm.get 4 = some (.bool (t.kind == 5)) ∧ tm.get 5 = some (.bool (t.kind == 3)) ∧ tm.get 6 = some (.bool (t.kind == 4)) ∧ tm.get 7 = some (.bool (t.kind == 1))) ?_ ?_
    · clear hx1; cases h1 : (t.bits == 0) <;> cases h2 : (t.kind == 4) <;> cases x1
      all_goals
        try simp (config := { maxSteps := 2000000 }) (disch := omega) only [EL_cons, EL_nil, EL_guard, LX_val, LG_tt, LG_ff, LG_tf, LG_ft, LG_undef, dop_move, dop_pick, dPick_bool, dop_load, dop_fieldAddr, dop_bin, ev_const, ev_tmp, Tr.get_put, put_some, Nat.reduceEqDiff, Option.getD_some, Nat.zero_add, Bool.and_self, if_true, if_false, load_new, cutC, dload1_some, List.drop_succ_cons, List.drop_zero, List.take_succ_cons, List.take_zero, List.length_cons, List.length_nil, Nat.beq_refl, and_self, guardOf_eq, guardGet_some, List.getElem?_cons_succ, List.getElem?_cons_zero, dBin_neq, dop_un, un_not, g, f1, f3, f4, f5, f6, f7, h1, h2, dFieldAddr_at fld26_3 one23, dLoad_one agg23, Bool.not_true, Bool.not_false, Bool.false_eq_true, bne, Bool.and_true, Bool.and_false, Bool.or_false, Bool.or_true]
    clear f1 f3 f4 f5 f6 f7 g
    rintro tm4 ⟨g, f1, f3, f4, f5, f6, f7⟩
    obtain ⟨x2, hx2⟩ : ∃ x, x = (x1 || (!(t.bits == 0) && !(t.kind == 4))) := ⟨_, rfl⟩
    rw [← hx2] at g
    refine EL.join 9 (fun tm => tm.get 81 = some (.bool (x2 || (!(t.var == 0) && !(t.kind == 1)))) ∧ tm.get 1 = some (.pointer (some ⟨H.next, 0, none⟩)) ∧ tm.get 3 = some (.bool (t.kind == 2)) ∧ tm.get 4 = some (.bool (t.kind == 5)) ∧ tm.get 5 = some (.bool (t.kind == 3)) ∧ tm.get 6 = some (.bool (t.kind == 4)) ∧ tm.get 7 = some (.bool (t.kind == 1))) ?_ ?_
    · clear hx2; cases h1 : (t.var == 0) <;> cases h2 : (t.kind == 1) <;> cases x2
      all_goals
        try simp (config := { maxSteps := 2000000 }) (disch := omega) only [EL_cons, EL_nil, EL_guard, LX_val, LG_tt, LG_ff, LG_tf, LG_ft, LG_undef, dop_move, dop_pick, dPick_bool, dop_load, dop_fieldAddr, dop_bin, ev_const, ev_tmp, Tr.get_put, put_some, Nat.reduceEqDiff, Option.getD_some, Nat.zero_add, Bool.and_self, if_true, if_false, load_new, cutC, dload1_some, List.drop_succ_cons, List.drop_zero, List.take_succ_cons, List.take_zero, List.length_cons, List.length_nil, Nat.beq_refl, and_self, guardOf_eq, guardGet_some, List.getElem?_cons_succ, List.getElem?_cons_zero, dBin_neq, dop_un, un_not, g, f1, f3, f4, f5, f6, f7, h1, h2, dFieldAddr_at fld26_4 one3, dLoad_one agg3, Bool.not_true, Bool.not_false, Bool.false_eq_true, bne, Bool.and_true, Bool.and_false, Bool.or_false, Bool.or_true]
    clear f1 f3 f4 f5 f6 f7 g
    rintro tm5 ⟨g, f1, f3, f4, f5, f6, f7⟩
    obtain ⟨x3, hx3⟩ : ∃ x, x = (x2 || (!(t.var == 0) && !(t.kind == 1))) := ⟨_, rfl⟩
    rw [← hx3] at g
    refine EL.join 10 (fun tm => tm.get 91 = some (.bool (x3 || (decide ((t.args.length : Int) > 0) && !(t.kind == 5)))) ∧ tm.get 1 = some (.pointer (some ⟨H.next, 0, none⟩)) ∧ tm.get 3 = some (.bool (t.kind == 2)) ∧ tm.get 4 = some (.bool (t.kind == 5)) ∧ tm.get 5 = some (.bool (t.kind == 3)) ∧ tm.get 6 = some (.bool (t.kind == 4)) ∧ tm.get 7 = some (.bool (t.kind == 1))) ?_ ?_
    · clear hx3; cases h1 : decide ((t.args.length : Int) > 0) <;> cases h2 : (t.kind == 5) <;> cases x3
      all_goals
        try simp (config := { maxSteps := 2000000 }) (disch := omega) only [EL_cons, EL_nil, EL_guard, LX_val, LG_tt, LG_ff, LG_tf, LG_ft, LG_undef, dop_move, dop_pick, dPick_bool, dop_load, dop_fieldAddr, dop_bin, dBin_gtr, ev_const, ev_tmp, Tr.get_put, put_some, Nat.reduceEqDiff, Option.getD_some, Nat.zero_add, Bool.and_self, if_true, if_false, load_new, cutC, dload1_some, List.drop_succ_cons, List.drop_zero, List.take_succ_cons, List.take_zero, List.length_cons, List.length_nil, Nat.beq_refl, and_self, guardOf_eq, guardGet_some, List.getElem?_cons_succ, List.getElem?_cons_zero, dop_un, un_not, dop_len, g, f1, f3, f4, f5, f6, f7, h1, h2, dFieldAddr_at fld26_5 one24, dLoad_one agg24, dLn_slice Tryd.underlying24, Bool.not_true, Bool.not_false, Bool.false_eq_true, Bool.and_true, Bool.and_false, Bool.or_false, Bool.or_true]
    clear f1 f3 f4 f5 f6 f7 g
    rintro tm6 ⟨g, f1, f3, f4, f5, f6, f7⟩
    obtain ⟨x4, hx4⟩ : ∃ x, x = (x3 || (decide ((t.args.length : Int) > 0) && !(t.kind == 5))) := ⟨_, rfl⟩
    rw [← hx4] at g
    try simp (config := { maxSteps := 2000000 }) (disch := omega) only [EL_nil, List.drop_succ_cons, List.drop_zero, List.drop_nil, thenC_normal]
    have hb : blankB t = !x4 := by
      have hgt : ((t.args.length : Int) == 0) = !decide ((t.args.length : Int) > 0) := by
        rw [Bool.eq_iff_iff]; simp
      rw [hx4, hx3, hx2, hx1, hy0]
      unfold blankB isE
      rw [hgt]
      cases (t.name.toList == []) <;> cases (t.num.toList == []) <;> cases (t.bits == 0) <;> cases (t.var == 0) <;> cases decide ((t.args.length : Int) > 0) <;> cases (t.kind == 1) <;> cases (t.kind == 2) <;> cases (t.kind == 3) <;> cases (t.kind == 4) <;> cases (t.kind == 5) <;> rfl
    cases x4 with
    | true =>
      refine EvC.condT (by simp only [ev_tmp, Option.getD_some, g]) ?_
      (repeat refine EvC.seq ?_); refine EvC.reg ?_; simp (config := { maxSteps := 2000000 }) (disch := omega) only [EL_cons, EL_nil, LX_val, dop_assign, ev_const, put_some, thenC_normal]
      refine EvC.ret ?_
      try simp (config := { maxSteps := 2000000 }) (disch := omega) only [thenC_ret]
      exact leave_one rfl (by simp only [Tr.get_put, if_true]; rfl) ⟨by rw [nodeE, if_neg hno, if_pos (show blankB t = false from hb)], hx⟩
    | false =>
      refine EvC.condF (by simp only [ev_tmp, Option.getD_some, g]) (EvC.skip ?_)
      try simp (config := { maxSteps := 2000000 }) (disch := omega) only [thenC_normal]
      exact ⟨hb, _, rfl, f1, f3, f4, f5, f6, f7⟩
    -- ]
  rintro st ⟨hbl, tm, rfl, f1, f3, f4, f5, f6, f7⟩
  try simp (config := { maxSteps := 2000000 }) (disch := omega) only [thenC_normal]
  -- the bounds
  refine EvC.seq ?_
  refine EvC.join (fun st => bndB t = false ∧ ∃ tm, st = ⟨tm, [], H.new (some (Blk.row [Value.int IntKind.i64 t.kind, Value.string t.name, Value.string t.num, Value.int IntKind.u64 t.bits, Value.int IntKind.i64 t.var, Value.slice a t.args.length c] 26))⟩ ∧ tm.get 1 = some (.pointer (some ⟨H.next, 0, none⟩)) ∧ tm.get 3 = some (.bool (t.kind == 2)) ∧ tm.get 4 = some (.bool (t.kind == 5)) ∧ tm.get 5 = some (.bool (t.kind == 3)) ∧ tm.get 6 = some (.bool (t.kind == 4)) ∧ tm.get 7 = some (.bool (t.kind == 1))) ?_ ?_
  · -- [
    refine EvC.seq (EvC.reg ?_)
    cases h1 : decide (t.var < 0) <;> cases h2 : (t.kind == 5) <;> cases h3 : ((t.args.length : Int) == 0) <;> cases h4 : decide ((t.args.length : Int) > 64)
    all_goals
      try simp (config := { maxSteps := 2000000 }) (disch := omega) only [EL_cons, EL_nil, EL_guard, LX_val, LG_tt, LG_ff, LG_tf, LG_ft, LG_undef, dop_move, dop_pick, dPick_bool, dop_load, dop_fieldAddr, dop_bin, dBin_lss, dBin_gtr, ev_const, ev_tmp, Tr.get_put, put_some, Nat.reduceEqDiff, Option.getD_some, Nat.zero_add, if_true, if_false, load_new, cutC, dload1_some, List.drop_succ_cons, List.drop_zero, List.take_succ_cons, List.take_zero, List.length_cons, List.length_nil, Nat.beq_refl, thenC_normal, guardOf_eq, guardGet_some, List.getElem?_cons_succ, List.getElem?_cons_zero, dBin_eql, dop_len, f1, f4, h1, h2, h3, h4, dFieldAddr_at fld26_4 one3, dFieldAddr_at fld26_5 one24, dLoad_one agg3, dLoad_one agg24, dLn_slice Tryd.underlying24, Bool.false_eq_true]
    all_goals
      first
      | (have hb : bndB t = true := by unfold bndB; rw [h1, h2, h3, h4]; rfl
         refine EvC.condT (by simp only [ev_tmp, Tr.get_put, Nat.reduceEqDiff, Option.getD_some, if_true, if_false]; done) ?_
         (repeat refine EvC.seq ?_); refine EvC.reg ?_; simp (config := { maxSteps := 2000000 }) (disch := omega) only [EL_cons, EL_nil, LX_val, dop_assign, ev_const, put_some, thenC_normal]
         refine EvC.ret ?_
         try simp (config := { maxSteps := 2000000 }) (disch := omega) only [thenC_ret]
         exact leave_one rfl (by simp only [Tr.get_put, Nat.reduceEqDiff, if_true, if_false]; rfl) ⟨by rw [nodeE_bnd hno hbl hb], hx⟩)
      | (have hb : bndB t = false := by unfold bndB; rw [h1, h2, h3, h4]; rfl
         refine EvC.condF (by simp only [ev_tmp, Tr.get_put, Nat.reduceEqDiff, Option.getD_some, if_true, if_false]; done) (EvC.skip ?_)
         try simp (config := { maxSteps := 2000000 }) (disch := omega) only [thenC_normal]
         exact ⟨hb, _, rfl, by simp only [Tr.get_put, Nat.reduceEqDiff, if_false]; exact f1, by simp only [Tr.get_put, Nat.reduceEqDiff, if_false]; exact f3, by simp only [Tr.get_put, Nat.reduceEqDiff, if_false, f4, h2], by simp only [Tr.get_put, Nat.reduceEqDiff, if_false]; exact f5, by simp only [Tr.get_put, Nat.reduceEqDiff, if_false]; exact f6, by simp only [Tr.get_put, Nat.reduceEqDiff, if_false]; exact f7⟩)
    -- ]
  rintro st ⟨hbd, tm, rfl, f1, f3, f4, f5, f6, f7⟩
  try simp (config := { maxSteps := 2000000 }) (disch := omega) only [thenC_normal]
  have hne := nodeE_rest (utf := utf) (num := num) (flt := flt) hno hbl hbd
  -- the name
  (repeat refine EvC.seq ?_); refine EvC.reg ?_; simp (config := { maxSteps := 2000000 }) (disch := omega) only [EL_cons, EL_nil, LX_val, LX_call, dop_assign, dop_load, dop_fieldAddr, ev_tmp, Tr.get_put, put_some, Nat.reduceEqDiff, Option.getD_some, Nat.zero_add, if_true, if_false, load_new, cutC, dload1_some, List.drop_succ_cons, List.drop_zero, List.take_succ_cons, List.take_zero, List.length_cons, List.length_nil, Nat.beq_refl, List.map_cons, List.map_nil, thenC_normal, f1, dFieldAddr_at fld26_1 one9, dLoad_one agg9, dop_call call105]
  refine (hU t.name _ b2 hx.wf).mono ?_
  rintro v H2 ⟨rfl, hx2⟩
  have hxx := hx.trans hx2
  have hb2 : H2.get H.next = some (Blk.row [Value.int IntKind.i64 t.kind, Value.string t.name, Value.string t.num, Value.int IntKind.u64 t.bits, Value.int IntKind.i64 t.var, Value.slice a t.args.length c] 26) := by rw [hx2.keep _ (Nat.lt_succ_self _), Heap.get_new, if_pos rfl]
  have l1 : H2.load ⟨H.next, 1, none⟩ 1 = some [.string t.name] := by simp only [Heap.load, Heap.cells, hb2]; rfl
  have l2 : H2.load ⟨H.next, 2, none⟩ 1 = some [.string t.num] := by simp only [Heap.load, Heap.cells, hb2]; rfl
  have l3 : H2.load ⟨H.next, 3, none⟩ 1 = some [.int .u64 t.bits] := by simp only [Heap.load, Heap.cells, hb2]; rfl
  try simp (config := { maxSteps := 2000000 }) (disch := omega) only []
  refine EvC.frame (fun tm => tm.get 8 = some (.bool (utf t.name)) ∧ tm.get 1 = some (.pointer (some ⟨H.next, 0, none⟩)) ∧ tm.get 3 = some (.bool (t.kind == 2)) ∧ tm.get 4 = some (.bool (t.kind == 5)) ∧ tm.get 5 = some (.bool (t.kind == 3)) ∧ tm.get 6 = some (.bool (t.kind == 4)) ∧ tm.get 7 = some (.bool (t.kind == 1))) ⟨by simp only [Tr.get_put, Nat.reduceEqDiff, if_true, if_false], by simp only [Tr.get_put, Nat.reduceEqDiff, if_false]; exact f1, by simp only [Tr.get_put, Nat.reduceEqDiff, if_false]; exact f3, by simp only [Tr.get_put, Nat.reduceEqDiff, if_false]; exact f4, by simp only [Tr.get_put, Nat.reduceEqDiff, if_false]; exact f5, by simp only [Tr.get_put, Nat.reduceEqDiff, if_false]; exact f6, by simp only [Tr.get_put, Nat.reduceEqDiff, if_false]; exact f7⟩ ?_
  clear f1 f3 f4 f5 f6 f7
  rintro tm ⟨f8, f1, f3, f4, f5, f6, f7⟩
  cases hu : utf t.name with
  | false =>
    rw [hu] at f8
    (repeat refine EvC.seq ?_); refine EvC.reg ?_; simp (config := { maxSteps := 2000000 }) (disch := omega) only [EL_cons, EL_nil, EL_guard, LX_val, LG_ft, dop_move, dop_pick, dPick_bool, ev_const, ev_tmp, Tr.get_put, put_some, Nat.reduceEqDiff, Option.getD_some, if_true, if_false, thenC_normal, guardOf_eq, guardGet_some, List.getElem?_cons_succ, List.getElem?_cons_zero, dop_un, un_not, f8, Bool.not_false]
    refine EvC.condT (by simp only [ev_tmp, Tr.get_put, Nat.reduceEqDiff, Option.getD_some, if_true, if_false]) ?_
    (repeat refine EvC.seq ?_); refine EvC.reg ?_; simp (config := { maxSteps := 2000000 }) (disch := omega) only [EL_cons, EL_nil, LX_val, dop_assign, ev_const, put_some, thenC_normal]
    refine EvC.ret ?_
    try simp (config := { maxSteps := 2000000 }) (disch := omega) only [thenC_ret]
    exact leave_one rfl (by simp only [Tr.get_put, Nat.reduceEqDiff, if_true, if_false]; rfl) ⟨by rw [hne, if_pos hu], hxx⟩
  | true =>
  rw [hu] at f8
  rw [if_neg (by rw [hu]; simp)] at hne
  by_cases hlen : 1000 < t.name.size
  · have hd : decide ((t.name.size : Int) > 1000) = true := decide_eq_true (by omega)
    (repeat refine EvC.seq ?_); refine EvC.reg ?_; simp (config := { maxSteps := 2000000 }) (disch := omega) only [EL_cons, EL_nil, EL_guard, LX_val, LG_ff, dop_move, dop_pick, dPick_bool, dop_load, dop_fieldAddr, dop_bin, dBin_gtr, ev_const, ev_tmp, Tr.get_put, put_some, Nat.reduceEqDiff, Option.getD_some, Nat.zero_add, if_true, if_false, dload1_some, thenC_normal, guardOf_eq, guardGet_some, List.getElem?_cons_succ, List.getElem?_cons_zero, dop_un, un_not, dop_len, f8, f1, l1, hd, dFieldAddr_at fld26_1 one9, dLoad_one agg9, dLn_string Tryd.underlying9, Bool.not_true, Bool.false_eq_true]
    refine EvC.condT (by simp only [ev_tmp, Tr.get_put, Nat.reduceEqDiff, Option.getD_some, if_true, if_false]) ?_
    (repeat refine EvC.seq ?_); refine EvC.reg ?_; simp (config := { maxSteps := 2000000 }) (disch := omega) only [EL_cons, EL_nil, LX_val, dop_assign, ev_const, put_some, thenC_normal]
    refine EvC.ret ?_
    try simp (config := { maxSteps := 2000000 }) (disch := omega) only [thenC_ret]
    exact leave_one rfl (by simp only [Tr.get_put, Nat.reduceEqDiff, if_true, if_false]; rfl) ⟨by rw [hne, if_pos hlen], hxx⟩
  rw [if_neg hlen] at hne
  have hd : decide ((t.name.size : Int) > 1000) = false := decide_eq_false (by omega)
  (repeat refine EvC.seq ?_); refine EvC.reg ?_; simp (config := { maxSteps := 2000000 }) (disch := omega) only [EL_cons, EL_nil, EL_guard, LX_val, LG_ff, dop_move, dop_pick, dPick_bool, dop_load, dop_fieldAddr, dop_bin, dBin_gtr, ev_const, ev_tmp, Tr.get_put, put_some, Nat.reduceEqDiff, Option.getD_some, Nat.zero_add, if_true, if_false, dload1_some, thenC_normal, guardOf_eq, guardGet_some, List.getElem?_cons_succ, List.getElem?_cons_zero, dop_un, un_not, dop_len, f8, f1, l1, hd, dFieldAddr_at fld26_1 one9, dLoad_one agg9, dLn_string Tryd.underlying9, Bool.not_true, Bool.false_eq_true]
  refine EvC.condF (by simp only [ev_tmp, Tr.get_put, Nat.reduceEqDiff, Option.getD_some, if_true, if_false]) (EvC.skip ?_)
  try simp (config := { maxSteps := 2000000 }) (disch := omega) only [thenC_normal]
  refine EvC.frame (fun tm => tm.get 1 = some (.pointer (some ⟨H.next, 0, none⟩)) ∧ tm.get 3 = some (.bool (t.kind == 2)) ∧ tm.get 4 = some (.bool (t.kind == 5)) ∧ tm.get 5 = some (.bool (t.kind == 3)) ∧ tm.get 6 = some (.bool (t.kind == 4)) ∧ tm.get 7 = some (.bool (t.kind == 1))) ⟨by simp only [Tr.get_put, Nat.reduceEqDiff, if_false]; exact f1, by simp only [Tr.get_put, Nat.reduceEqDiff, if_false]; exact f3, by simp only [Tr.get_put, Nat.reduceEqDiff, if_false]; exact f4, by simp only [Tr.get_put, Nat.reduceEqDiff, if_false]; exact f5, by simp only [Tr.get_put, Nat.reduceEqDiff, if_false]; exact f6, by simp only [Tr.get_put, Nat.reduceEqDiff, if_false]; exact f7⟩ ?_
  clear f1 f3 f4 f5 f6 f7 f8
  rintro tm ⟨f1, f3, f4, f5, f6, f7⟩
  -- an integer
  by_cases k3 : t.kind = 3
  · have q3 : (t.kind == 3) = true := by simp [k3]
    have q4 : (t.kind == 4) = false := by simp [k3]
    rw [q3] at f5
    rw [q4] at f6
    (repeat refine EvC.seq ?_); refine EvC.reg ?_; simp (config := { maxSteps := 2000000 }) (disch := omega) only [EL_cons, EL_nil, LX_val, dop_move, ev_tmp, put_some, Option.getD_some, thenC_normal, f5]
    refine EvC.condT (by simp only [ev_tmp, Tr.get_put, Option.getD_some, if_true]) ?_
    (repeat refine EvC.seq ?_); refine EvC.reg ?_; simp (config := { maxSteps := 2000000 }) (disch := omega) only [EL_cons, EL_nil, LX_val, LX_call, dop_assign, dop_load, dop_fieldAddr, ev_tmp, Tr.get_put, put_some, Nat.reduceEqDiff, Option.getD_some, Nat.zero_add, if_true, if_false, dload1_some, List.map_cons, List.map_nil, thenC_normal, f1, l2, dFieldAddr_at fld26_2 one9, dLoad_one agg9, dop_call call106]
    refine (hN t.num _ b3 hx2.wf).mono ?_
    rintro v H3 ⟨rfl, hx3⟩
    try simp (config := { maxSteps := 2000000 }) (disch := omega) only []
    (repeat refine EvC.seq ?_); refine EvC.reg ?_; simp (config := { maxSteps := 2000000 }) (disch := omega) only [EL_cons, EL_nil, LX_val, dop_move, ev_tmp, Tr.get_put, put_some, Nat.reduceEqDiff, Option.getD_some, if_true, if_false, thenC_normal, dop_un, un_not]
    cases hn : num t.num with
    | false =>
      refine EvC.condT (by simp only [ev_tmp, Tr.get_put, Nat.reduceEqDiff, Option.getD_some, if_true, if_false]; rfl) ?_
      (repeat refine EvC.seq ?_); refine EvC.reg ?_; simp (config := { maxSteps := 2000000 }) (disch := omega) only [EL_cons, EL_nil, LX_val, dop_assign, ev_const, put_some, thenC_normal]
      refine EvC.ret ?_
      try simp (config := { maxSteps := 2000000 }) (disch := omega) only [thenC_ret]
      exact leave_one rfl (by simp only [Tr.get_put, Nat.reduceEqDiff, if_true, if_false]; rfl) ⟨by rw [hne, if_pos ⟨k3, hn⟩], hxx.trans hx3⟩
    | true =>
      refine EvC.condF (by simp only [ev_tmp, Tr.get_put, Nat.reduceEqDiff, Option.getD_some, if_true, if_false]; rfl) (EvC.skip ?_)
      try simp (config := { maxSteps := 2000000 }) (disch := omega) only [thenC_normal]
      (repeat refine EvC.seq ?_); refine EvC.reg ?_; simp (config := { maxSteps := 2000000 }) (disch := omega) only [EL_cons, EL_nil, LX_val, dop_move, ev_tmp, Tr.get_put, put_some, Nat.reduceEqDiff, Option.getD_some, if_false, thenC_normal, f6]
      refine EvC.condF (by simp only [ev_tmp, Tr.get_put, Nat.reduceEqDiff, Option.getD_some, if_true, if_false]) (EvC.skip ?_)
      try simp (config := { maxSteps := 2000000 }) (disch := omega) only [thenC_normal]
      (repeat refine EvC.seq ?_); refine EvC.reg ?_; simp (config := { maxSteps := 2000000 }) (disch := omega) only [EL_cons, EL_nil, LX_val, dop_assign, ev_const, put_some, thenC_normal]
      refine EvC.ret ?_
      try simp (config := { maxSteps := 2000000 }) (disch := omega) only []
      exact leave_one rfl (by simp only [Tr.get_put, Nat.reduceEqDiff, if_true, if_false]; rfl) ⟨by rw [hne, if_neg (by rw [hn]; simp), if_neg (by rw [k3]; simp)], hxx.trans hx3⟩
  have q3 : (t.kind == 3) = false := by simp [k3]
  rw [q3] at f5
  rw [if_neg (fun h => k3 h.1)] at hne
  (repeat refine EvC.seq ?_); refine EvC.reg ?_; simp (config := { maxSteps := 2000000 }) (disch := omega) only [EL_cons, EL_nil, LX_val, dop_move, ev_tmp, put_some, Option.getD_some, thenC_normal, f5]
  refine EvC.condF (by simp only [ev_tmp, Tr.get_put, Option.getD_some, if_true]) (EvC.skip ?_)
  try simp (config := { maxSteps := 2000000 }) (disch := omega) only [thenC_normal]
  -- a float
  by_cases k4 : t.kind = 4
  · have q4 : (t.kind == 4) = true := by simp [k4]
    rw [q4] at f6
    (repeat refine EvC.seq ?_); refine EvC.reg ?_; simp (config := { maxSteps := 2000000 }) (disch := omega) only [EL_cons, EL_nil, LX_val, dop_move, ev_tmp, Tr.get_put, put_some, Nat.reduceEqDiff, Option.getD_some, if_false, thenC_normal, f6]
    refine EvC.condT (by simp only [ev_tmp, Tr.get_put, Nat.reduceEqDiff, Option.getD_some, if_true, if_false]) ?_
    (repeat refine EvC.seq ?_); refine EvC.reg ?_; simp (config := { maxSteps := 2000000 }) (disch := omega) only [EL_cons, EL_nil, LX_val, LX_call, dop_assign, dop_load, dop_fieldAddr, ev_tmp, Tr.get_put, put_some, Nat.reduceEqDiff, Option.getD_some, Nat.zero_add, if_true, if_false, dload1_some, List.map_cons, List.map_nil, thenC_normal, f1, l3, dFieldAddr_at fld26_3 one23, dLoad_one agg23, dop_call call107]
    refine (hF t.bits _ b4 hx2.wf).mono ?_
    rintro v H3 ⟨rfl, hx3⟩
    try simp (config := { maxSteps := 2000000 }) (disch := omega) only []
    (repeat refine EvC.seq ?_); refine EvC.reg ?_; simp (config := { maxSteps := 2000000 }) (disch := omega) only [EL_cons, EL_nil, LX_val, dop_move, ev_tmp, Tr.get_put, put_some, Nat.reduceEqDiff, Option.getD_some, if_true, if_false, thenC_normal, dop_un, un_not]
    cases hn : flt t.bits with
    | false =>
      refine EvC.condT (by simp only [ev_tmp, Tr.get_put, Nat.reduceEqDiff, Option.getD_some, if_true, if_false]; rfl) ?_
      (repeat refine EvC.seq ?_); refine EvC.reg ?_; simp (config := { maxSteps := 2000000 }) (disch := omega) only [EL_cons, EL_nil, LX_val, dop_assign, ev_const, put_some, thenC_normal]
      refine EvC.ret ?_
      try simp (config := { maxSteps := 2000000 }) (disch := omega) only [thenC_ret]
      exact leave_one rfl (by simp only [Tr.get_put, Nat.reduceEqDiff, if_true, if_false]; rfl) ⟨by rw [hne, if_pos ⟨k4, hn⟩], hxx.trans hx3⟩
    | true =>
      refine EvC.condF (by simp only [ev_tmp, Tr.get_put, Nat.reduceEqDiff, Option.getD_some, if_true, if_false]; rfl) (EvC.skip ?_)
      try simp (config := { maxSteps := 2000000 }) (disch := omega) only [thenC_normal]
      (repeat refine EvC.seq ?_); refine EvC.reg ?_; simp (config := { maxSteps := 2000000 }) (disch := omega) only [EL_cons, EL_nil, LX_val, dop_assign, ev_const, put_some, thenC_normal]
      refine EvC.ret ?_
      try simp (config := { maxSteps := 2000000 }) (disch := omega) only []
      exact leave_one rfl (by simp only [Tr.get_put, Nat.reduceEqDiff, if_true, if_false]; rfl) ⟨by rw [hne, if_neg (by rw [hn]; simp)], hxx.trans hx3⟩
  have q4 : (t.kind == 4) = false := by simp [k4]
  rw [q4] at f6
  (repeat refine EvC.seq ?_); refine EvC.reg ?_; simp (config := { maxSteps := 2000000 }) (disch := omega) only [EL_cons, EL_nil, LX_val, dop_move, ev_tmp, Tr.get_put, put_some, Nat.reduceEqDiff, Option.getD_some, if_false, thenC_normal, f6]
  refine EvC.condF (by simp only [ev_tmp, Tr.get_put, Nat.reduceEqDiff, Option.getD_some, if_true, if_false]) (EvC.skip ?_)
  try simp (config := { maxSteps := 2000000 }) (disch := omega) only [thenC_normal]
  (repeat refine EvC.seq ?_); refine EvC.reg ?_; simp (config := { maxSteps := 2000000 }) (disch := omega) only [EL_cons, EL_nil, LX_val, dop_assign, ev_const, put_some, thenC_normal]
  refine EvC.ret ?_
  try simp (config := { maxSteps := 2000000 }) (disch := omega) only []
  exact leave_one rfl (by simp only [Tr.get_put, Nat.reduceEqDiff, if_true, if_false]; rfl) ⟨by rw [hne, if_neg (fun h => k4 h.1)], hxx⟩
end Go.Proofs.YtlllbkjiadcloaaDoor.hb
end

-- W5a
section
/- math.Float64frombits, a function without a body. -/
namespace Go.Proofs.YtlllbkjiadcloaaDoor.hb
open Go Go.RowKit Go.Hb

def rho0 (n : Int) : Operand → Value
  | .func f => .func (.func f) #[] #[]
  | _ => .int .u64 n
theorem frombits_run (n : Int) (d : Option Tmp) (k : Tmp) (ats : Array TypeId) (ty : TypeId) (pos : String) (af : Array Edge) (g : Option (Nat × Bool)) :
    pureRun Tryd.prog (execOp (rho0 n) ⟨d, .call ⟨.value (.func 89), #[.tmp k], ats⟩, ty, pos, af, g⟩) = some (.value (.float .f64 n.toNat)) := by kernel_rfl
theorem nocall89 (l : List Value) : dcall1 Tryd.prog 89 l = none := by
  unfold dcall1
  rw [Tryd.func89]
  rfl
theorem dop_frombits {d : Option Tmp} {k : Tmp} {ats : Array TypeId} {ty : TypeId} {pos : String} {af : Array Edge} {g : Option (Nat × Bool)} {tm : Tr Value} {H : Heap} {n : Int} (hv : tm.get k = some (.int .u64 n)) :
    dop Tryd.prog ⟨d, .call ⟨.value (.func 89), #[.tmp k], ats⟩, ty, pos, af, g⟩ (ev tm) H = some (.val (.float .f64 n.toNat) H) := by
  have hρ : ∀ y ∈ (⟨d, .call ⟨.value (.func 89), #[.tmp k], ats⟩, ty, pos, af, g⟩ : Oper).op.operands, ev tm y = rho0 n y := by
    intro y hy
    simp [Op.operands, Call.operands] at hy
    rcases hy with rfl | rfl
    · rfl
    · show (tm.get k).getD junk = _
      rw [hv]; rfl
  have e : dop Tryd.prog ⟨d, .call ⟨.value (.func 89), #[.tmp k], ats⟩, ty, pos, af, g⟩ (ev tm) H = dflat Tryd.prog ⟨d, .call ⟨.value (.func 89), #[.tmp k], ats⟩, ty, pos, af, g⟩ (ev tm) H := by
    simp only [dop, ev, nocall89]
  have hf : allFlat (ev tm) (⟨d, .call ⟨.value (.func 89), #[.tmp k], ats⟩, ty, pos, af, g⟩ : Oper) = true := by
    unfold allFlat
    rw [List.all_eq_true]
    intro y hy
    rw [hρ y (Array.mem_toList_iff.1 hy)]
    simp [Op.operands, Call.operands] at hy
    rcases hy with rfl | rfl <;> rfl
  rw [e]
  unfold dflat
  rw [hf, execOp_congr _ (by intro cs b h; cases h) hρ, frombits_run]
  rfl
end Go.Proofs.YtlllbkjiadcloaaDoor.hb
end

-- W5
section
/- A node by itself: the program's 'node'. -/
namespace Go.Proofs.YtlllbkjiadcloaaDoor.hb
open Go Go.RowKit Go.Hb

/-- a float's bits, as the program looks at them: by three calls -/
def TellsN (ok : Ok) (f g h : FuncId) (fn fi : Int → Bool) : Prop := ∀ (n : Int) (H : Heap) , u64 n → H.wf → EvF Tryd.prog ok g [.float .f64 n.toNat] H (fun v H' => v = .bool (fn n) ∧ HX H H') ∧ EvF Tryd.prog ok h [.float .f64 n.toNat, .int .i64 0] H (fun v H' => v = .bool (fi n) ∧ HX H H')

theorem call103 : callable Tryd.prog 103 = true := by kernel_rfl
theorem call104 : callable Tryd.prog 104 = true := by kernel_rfl

variable {ok : Ok}
set_option maxRecDepth 10000 in
set_option maxHeartbeats 8000000 in
theorem node_ev {utf num : ByteArray → Bool} {fn fi : Int → Bool} (hk : ∀ args H, ok.K 84 args H = none) (hm : ok.testBit 84 = true) (hk2 : ∀ args H, ok.K 100 args H = none) (hm2 : ok.testBit 100 = true)
    (hU : TellsS ok 101 utf) (hN : TellsS ok 102 num) (hF : TellsN ok 89 103 104 fn fi)
    {t : Tm} {cs : List Value} {H : Heap} (r : RepT H t cs) (hw : H.wf) : EvF Tryd.prog ok 84 [.agg ⟨cs⟩] H fun v H' => v = .int .i64 (nodeE utf num (fun n => !(fn n || fi n || n == 9223372036854775808)) t) ∧ HX H H' := by
  have rr := r
  obtain ⟨a, c, cells, rfl, b1, b2, b3, b4, b5, rl⟩ := r.inv
  have hx := (HX.refl hw).new (some (Blk.row [Value.int IntKind.i64 t.kind, Value.string t.name, Value.string t.num, Value.int IntKind.u64 t.bits, Value.int IntKind.i64 t.var, Value.slice a t.args.length c] 26))
  refine EvF.enter (hk _ _) Tryd.func84 hm rfl ?_
  (repeat refine EvC.seq ?_); refine EvC.reg ?_; simp (config := { maxSteps := 2000000 }) (disch := omega) only [initTm, EL_cons, EL_nil, LX_val, dop_box, dBox, dop_assign, ev_const, ev_tmp, Tr.get_put, put_some, Option.getD_some, Value.cells, List.all_cons, List.all_nil, one, Bool.and_self, if_true, thenC_normal]
  (repeat refine EvC.seq ?_); refine EvC.block ?_
  -- the kind
  refine EvC.seq (EvC.reg ?_)
  by_cases hno : t.kind < 1 ∨ 5 < t.kind
  · have hlt : decide (t.kind < 1) = true ∨ (decide (t.kind < 1) = false ∧ decide (t.kind > 5) = true) := by
      by_cases h : t.kind < 1
      · exact .inl (by simp [h])
      · exact .inr ⟨by simp [h], by simp; omega⟩
    rcases hlt with h | ⟨h, h'⟩
    · try simp (config := { maxSteps := 2000000 }) (disch := omega) only [EL_cons, EL_nil, EL_guard, LX_val, LG_ft, dop_assign, dop_move, dop_pick, dPick_bool, dop_load, dop_fieldAddr, dop_bin, dBin_lss, ev_const, ev_tmp, Tr.get_put, put_some, Nat.reduceEqDiff, Option.getD_some, Nat.add_zero, Nat.zero_add, reduceCtorEq, if_true, if_false, load_new, cutC, dload1_some, List.drop_zero, List.take_succ_cons, List.take_zero, List.length_cons, List.length_nil, Nat.beq_refl, thenC_normal, guardOf_eq, guardGet_some, List.getElem?_cons_succ, List.getElem?_cons_zero, h, dFieldAddr_at fld26_0 one3, dLoad_one agg3]
      refine EvC.condT (by simp only [ev_tmp, Tr.get_put, Nat.reduceEqDiff, Option.getD_some, reduceCtorEq, if_true, if_false]) ?_
      (repeat refine EvC.seq ?_); refine EvC.reg ?_; simp (config := { maxSteps := 2000000 }) (disch := omega) only [EL_cons, EL_nil, LX_val, dop_assign, ev_const, put_some, thenC_normal]
      refine EvC.ret ?_
      try simp (config := { maxSteps := 2000000 }) (disch := omega) only [thenC_ret, inBlock_ret]
      exact leave_one rfl (by simp only [Tr.get_put, Nat.reduceEqDiff, reduceCtorEq, if_true, if_false]; rfl) ⟨by rw [nodeE, if_pos hno], hx⟩
    · try simp (config := { maxSteps := 2000000 }) (disch := omega) only [EL_cons, EL_nil, EL_guard, LX_val, LG_ff, LG_ft, dop_assign, dop_move, dop_pick, dPick_bool, dop_load, dop_fieldAddr, dop_bin, dBin_lss, dBin_gtr, ev_const, ev_tmp, Tr.get_put, put_some, Nat.reduceEqDiff, Option.getD_some, Nat.add_zero, Nat.zero_add, reduceCtorEq, if_true, if_false, load_new, cutC, dload1_some, List.drop_zero, List.take_succ_cons, List.take_zero, List.length_cons, List.length_nil, Nat.beq_refl, thenC_normal, guardOf_eq, guardGet_some, List.getElem?_cons_succ, List.getElem?_cons_zero, h, h', dFieldAddr_at fld26_0 one3, dLoad_one agg3, Bool.false_eq_true]
      refine EvC.condT (by simp only [ev_tmp, Tr.get_put, Nat.reduceEqDiff, Option.getD_some, reduceCtorEq, if_true, if_false]) ?_
      (repeat refine EvC.seq ?_); refine EvC.reg ?_; simp (config := { maxSteps := 2000000 }) (disch := omega) only [EL_cons, EL_nil, LX_val, dop_assign, ev_const, put_some, thenC_normal]
      refine EvC.ret ?_
      try simp (config := { maxSteps := 2000000 }) (disch := omega) only [thenC_ret, inBlock_ret]
      exact leave_one rfl (by simp only [Tr.get_put, Nat.reduceEqDiff, reduceCtorEq, if_true, if_false]; rfl) ⟨by rw [nodeE, if_pos hno], hx⟩
  have q1 : decide (t.kind < 1) = false := by simp; omega
  have q2 : decide (t.kind > 5) = false := by simp; omega
  try simp (config := { maxSteps := 2000000 }) (disch := omega) only [EL_cons, EL_guard, LX_val, LX_call, LG_ff, dop_move, dop_pick, dPick_bool, dop_load, dop_fieldAddr, dop_bin, dBin_lss, dBin_gtr, ev_const, ev_tmp, Tr.get_put, put_some, Nat.reduceEqDiff, Option.getD_some, Nat.reduceAdd, Nat.add_zero, Nat.zero_add, reduceCtorEq, if_true, if_false, load_new, cutC, dloadA_some, dload1_some, List.drop_zero, List.take_succ_cons, List.take_zero, List.length_cons, List.length_nil, Nat.beq_refl, List.map_cons, List.map_nil, thenC_normal, guardOf_eq, guardGet_some, List.getElem?_cons_succ, List.getElem?_cons_zero, dop_un, q1, q2, dFieldAddr_at fld26_0 one3, dLoad_one agg3, Bool.false_eq_true, dLoad_agg agg26, cells26, dop_call call100]
  refine (blank_ev hk2 hm2 (rr.mono hx hw) hx.wf).mono ?_
  rintro v H2 ⟨rfl, hx2⟩
  have hxx := hx.trans hx2
  have hb2 : H2.get H.next = some (Blk.row [Value.int IntKind.i64 t.kind, Value.string t.name, Value.string t.num, Value.int IntKind.u64 t.bits, Value.int IntKind.i64 t.var, Value.slice a t.args.length c] 26) := by rw [hx2.keep _ (Nat.lt_succ_self _), Heap.get_new, if_pos rfl]
  have l0 : H2.load ⟨H.next, 0, none⟩ 1 = some [.int .i64 t.kind] := by simp only [Heap.load, Heap.cells, hb2]; rfl
  have l1 : H2.load ⟨H.next, 1, none⟩ 1 = some [.string t.name] := by simp only [Heap.load, Heap.cells, hb2]; rfl
  have l2 : H2.load ⟨H.next, 2, none⟩ 1 = some [.string t.num] := by simp only [Heap.load, Heap.cells, hb2]; rfl
  have l3 : H2.load ⟨H.next, 3, none⟩ 1 = some [.int .u64 t.bits] := by simp only [Heap.load, Heap.cells, hb2]; rfl
  have l4 : H2.load ⟨H.next, 4, none⟩ 1 = some [.int .i64 t.var] := by simp only [Heap.load, Heap.cells, hb2]; rfl
  have l5 : H2.load ⟨H.next, 5, none⟩ 1 = some [.slice a t.args.length c] := by simp only [Heap.load, Heap.cells, hb2]; rfl
  cases hbl : blankB t with
  | false =>
    try simp (config := { maxSteps := 2000000 }) (disch := omega) only [EL_cons, EL_nil, EL_guard, LX_val, LG_ft, dop_assign, dop_move, dop_pick, dPick_bool, ev_const, ev_tmp, Tr.get_put, put_some, Nat.reduceEqDiff, Option.getD_some, reduceCtorEq, if_true, if_false, guardOf_eq, guardGet_some, List.getElem?_cons_succ, List.getElem?_cons_zero, un_not, Bool.not_false, Bool.false_eq_true]
    refine EvC.condT (by simp only [ev_tmp, Tr.get_put, Nat.reduceEqDiff, Option.getD_some, reduceCtorEq, if_true, if_false]) ?_
    (repeat refine EvC.seq ?_); refine EvC.reg ?_; simp (config := { maxSteps := 2000000 }) (disch := omega) only [EL_cons, EL_nil, LX_val, dop_assign, ev_const, put_some, thenC_normal]
    refine EvC.ret ?_
    try simp (config := { maxSteps := 2000000 }) (disch := omega) only [thenC_ret, inBlock_ret]
    exact leave_one rfl (by simp only [Tr.get_put, Nat.reduceEqDiff, reduceCtorEq, if_true, if_false]; rfl) ⟨by rw [nodeE, if_neg hno, if_pos hbl], hxx⟩
  | true =>
  by_cases hv : t.var < 0
  · have hd : decide (t.var < 0) = true := decide_eq_true hv
    try simp (config := { maxSteps := 2000000 }) (disch := omega) only [EL_cons, EL_nil, EL_guard, LX_val, LG_ff, dop_assign, dop_move, dop_pick, dPick_bool, dop_load, dop_fieldAddr, dop_bin, dBin_lss, ev_const, ev_tmp, Tr.get_put, put_some, Nat.reduceEqDiff, Option.getD_some, Nat.zero_add, reduceCtorEq, if_true, if_false, dload1_some, guardOf_eq, guardGet_some, List.getElem?_cons_succ, List.getElem?_cons_zero, un_not, l4, hd, dFieldAddr_at fld26_4 one3, dLoad_one agg3, Bool.not_true, Bool.false_eq_true]
    refine EvC.condT (by simp only [ev_tmp, Tr.get_put, Nat.reduceEqDiff, Option.getD_some, reduceCtorEq, if_true, if_false]) ?_
    (repeat refine EvC.seq ?_); refine EvC.reg ?_; simp (config := { maxSteps := 2000000 }) (disch := omega) only [EL_cons, EL_nil, LX_val, dop_assign, ev_const, put_some, thenC_normal]
    refine EvC.ret ?_
    try simp (config := { maxSteps := 2000000 }) (disch := omega) only [thenC_ret, inBlock_ret]
    exact leave_one rfl (by simp only [Tr.get_put, Nat.reduceEqDiff, reduceCtorEq, if_true, if_false]; rfl) ⟨by rw [nodeE_bnd hno hbl (by unfold bndB; rw [hd]; rfl)], hxx⟩
  have hd : decide (t.var < 0) = false := decide_eq_false hv
  try simp (config := { maxSteps := 2000000 }) (disch := omega) only [EL_cons, EL_nil, EL_guard, LX_val, LG_ff, dop_assign, dop_move, dop_pick, dPick_bool, dop_load, dop_fieldAddr, dop_bin, dBin_lss, ev_const, ev_tmp, Tr.get_put, put_some, Nat.reduceEqDiff, Option.getD_some, Nat.zero_add, reduceCtorEq, if_true, if_false, dload1_some, guardOf_eq, guardGet_some, List.getElem?_cons_succ, List.getElem?_cons_zero, un_not, l4, hd, dFieldAddr_at fld26_4 one3, dLoad_one agg3, Bool.not_true, Bool.false_eq_true]
  refine EvC.condF (by simp only [ev_tmp, Tr.get_put, Nat.reduceEqDiff, Option.getD_some, reduceCtorEq, if_true, if_false]) ?_
  refine EvC.frame (fun tm => tm.get 1 = some (.pointer (some ⟨H.next, 0, none⟩))) (by simp only [Tr.get_put, Nat.reduceEqDiff, reduceCtorEq, if_true, if_false]) ?_
  rintro tm g1
  -- the arguments
  refine EvC.seq ?_
  refine EvC.join (fun st => ∃ tm, st = ⟨tm, [], H2⟩ ∧ tm.get 1 = some (.pointer (some ⟨H.next, 0, none⟩)) ∧ tm.get 23 = some (.bool (t.kind == 5 && ((t.args.length : Int) == 0 || decide ((t.args.length : Int) > 64))))) ?_ ?_
  · refine EvC.reg ?_
    cases h2 : (t.kind == 5) <;> cases h3 : ((t.args.length : Int) == 0) <;> cases h4 : decide ((t.args.length : Int) > 64)
    all_goals
      try simp (config := { maxSteps := 2000000 }) (disch := omega) only [EL_cons, EL_nil, EL_guard, LX_val, LG_tt, LG_ff, LG_tf, LG_ft, LG_undef, dop_assign, dop_move, dop_pick, dPick_bool, dop_load, dop_fieldAddr, dop_bin, dBin_gtr, ev_const, ev_tmp, Tr.get_put, put_some, Nat.reduceEqDiff, Option.getD_some, Nat.add_zero, Nat.zero_add, if_true, if_false, dload1_some, thenC_normal, guardOf_eq, guardGet_some, List.getElem?_cons_succ, List.getElem?_cons_zero, dBin_eql, dop_len, g1, l0, l5, h2, h3, h4, dFieldAddr_at fld26_0 one3, dFieldAddr_at fld26_5 one24, dLoad_one agg3, dLoad_one agg24, dLn_slice Tryd.underlying24, Bool.false_eq_true]
      exact ⟨_, rfl, by simp only [Tr.get_put, Nat.reduceEqDiff, if_false]; exact g1, by simp only [Tr.get_put, Nat.reduceEqDiff, if_true, if_false]; rfl⟩
  clear g1 tm
  rintro st ⟨tm, rfl, g1, g23⟩
  try simp (config := { maxSteps := 2000000 }) (disch := omega) only [thenC_normal]
  cases hbad : (t.kind == 5 && ((t.args.length : Int) == 0 || decide ((t.args.length : Int) > 64))) with
  | true =>
    rw [hbad] at g23
    refine EvC.condT (by simp only [ev_tmp, Option.getD_some, g23]) ?_
    (repeat refine EvC.seq ?_); refine EvC.reg ?_; simp (config := { maxSteps := 2000000 }) (disch := omega) only [EL_cons, EL_nil, LX_val, dop_assign, ev_const, put_some, thenC_normal]
    refine EvC.ret ?_
    try simp (config := { maxSteps := 2000000 }) (disch := omega) only [thenC_ret, inBlock_ret]
    exact leave_one rfl (by simp only [Tr.get_put, if_true]; rfl) ⟨by rw [nodeE_bnd hno hbl (by unfold bndB; rw [hd, hbad]; rfl)], hxx⟩
  | false =>
  rw [hbad] at g23
  have hne := nodeE_rest (utf := utf) (num := num) (flt := fun n => !(fn n || fi n || n == 9223372036854775808)) hno hbl (by unfold bndB; rw [hd, hbad]; rfl)
  refine EvC.condF (by simp only [ev_tmp, Option.getD_some, g23]) ?_
  -- the name
  (repeat refine EvC.seq ?_); refine EvC.reg ?_; simp (config := { maxSteps := 2000000 }) (disch := omega) only [EL_cons, LX_val, LX_call, dop_load, dop_fieldAddr, ev_tmp, Tr.get_put, put_some, Nat.reduceEqDiff, Option.getD_some, Nat.zero_add, if_true, if_false, dload1_some, List.map_cons, List.map_nil, thenC_normal, dop_un, g1, l1, dFieldAddr_at fld26_1 one9, dLoad_one agg9, dop_call call101]
  refine (hU t.name _ b2 hx2.wf).mono ?_
  rintro v H3 ⟨rfl, hx3⟩
  have hxx3 := hxx.trans hx3
  have hlt2 : H.next < H2.next := Nat.lt_of_lt_of_le (Nat.lt_succ_self _) hx2.next
  have hb3 : H3.get H.next = some (Blk.row [Value.int IntKind.i64 t.kind, Value.string t.name, Value.string t.num, Value.int IntKind.u64 t.bits, Value.int IntKind.i64 t.var, Value.slice a t.args.length c] 26) := by rw [hx3.keep _ hlt2]; exact hb2
  have m0 : H3.load ⟨H.next, 0, none⟩ 1 = some [.int .i64 t.kind] := by simp only [Heap.load, Heap.cells, hb3]; rfl
  have m1 : H3.load ⟨H.next, 1, none⟩ 1 = some [.string t.name] := by simp only [Heap.load, Heap.cells, hb3]; rfl
  have m2 : H3.load ⟨H.next, 2, none⟩ 1 = some [.string t.num] := by simp only [Heap.load, Heap.cells, hb3]; rfl
  have m3 : H3.load ⟨H.next, 3, none⟩ 1 = some [.int .u64 t.bits] := by simp only [Heap.load, Heap.cells, hb3]; rfl
  cases hu : utf t.name with
  | false =>
    try simp (config := { maxSteps := 2000000 }) (disch := omega) only [EL_cons, EL_nil, EL_guard, LX_val, LG_ft, dop_assign, dop_move, dop_pick, dPick_bool, ev_const, ev_tmp, Tr.get_put, put_some, Nat.reduceEqDiff, Option.getD_some, if_true, if_false, guardOf_eq, guardGet_some, List.getElem?_cons_succ, List.getElem?_cons_zero, un_not, Bool.not_false]
    refine EvC.condT (by simp only [ev_tmp, Tr.get_put, Nat.reduceEqDiff, Option.getD_some, if_true, if_false]) ?_
    (repeat refine EvC.seq ?_); refine EvC.reg ?_; simp (config := { maxSteps := 2000000 }) (disch := omega) only [EL_cons, EL_nil, LX_val, dop_assign, ev_const, put_some, thenC_normal]
    refine EvC.ret ?_
    try simp (config := { maxSteps := 2000000 }) (disch := omega) only [thenC_ret, inBlock_ret]
    exact leave_one rfl (by simp only [Tr.get_put, Nat.reduceEqDiff, if_true, if_false]; rfl) ⟨by rw [hne, if_pos hu], hxx3⟩
  | true =>
  rw [if_neg (by rw [hu]; simp)] at hne
  by_cases hlen : 1000 < t.name.size
  · have hd : decide ((t.name.size : Int) > 1000) = true := decide_eq_true (by omega)
    try simp (config := { maxSteps := 2000000 }) (disch := omega) only [EL_cons, EL_nil, EL_guard, LX_val, LG_ff, dop_assign, dop_move, dop_pick, dPick_bool, dop_load, dop_fieldAddr, dop_bin, dBin_gtr, ev_const, ev_tmp, Tr.get_put, put_some, Nat.reduceEqDiff, Option.getD_some, Nat.zero_add, if_true, if_false, dload1_some, guardOf_eq, guardGet_some, List.getElem?_cons_succ, List.getElem?_cons_zero, un_not, dop_len, g1, m1, hd, dFieldAddr_at fld26_1 one9, dLoad_one agg9, dLn_string Tryd.underlying9, Bool.not_true, Bool.false_eq_true]
    refine EvC.condT (by simp only [ev_tmp, Tr.get_put, Nat.reduceEqDiff, Option.getD_some, if_true, if_false]) ?_
    (repeat refine EvC.seq ?_); refine EvC.reg ?_; simp (config := { maxSteps := 2000000 }) (disch := omega) only [EL_cons, EL_nil, LX_val, dop_assign, ev_const, put_some, thenC_normal]
    refine EvC.ret ?_
    try simp (config := { maxSteps := 2000000 }) (disch := omega) only [thenC_ret, inBlock_ret]
    exact leave_one rfl (by simp only [Tr.get_put, Nat.reduceEqDiff, if_true, if_false]; rfl) ⟨by rw [hne, if_pos hlen], hxx3⟩
  rw [if_neg hlen] at hne
  have hd2 : decide ((t.name.size : Int) > 1000) = false := decide_eq_false (by omega)
  try simp (config := { maxSteps := 2000000 }) (disch := omega) only [EL_cons, EL_nil, EL_guard, LX_val, LG_ff, dop_assign, dop_move, dop_pick, dPick_bool, dop_load, dop_fieldAddr, dop_bin, dBin_gtr, ev_const, ev_tmp, Tr.get_put, put_some, Nat.reduceEqDiff, Option.getD_some, Nat.zero_add, if_true, if_false, dload1_some, guardOf_eq, guardGet_some, List.getElem?_cons_succ, List.getElem?_cons_zero, un_not, dop_len, g1, m1, hd2, dFieldAddr_at fld26_1 one9, dLoad_one agg9, dLn_string Tryd.underlying9, Bool.not_true, Bool.false_eq_true]
  refine EvC.condF (by simp only [ev_tmp, Tr.get_put, Nat.reduceEqDiff, Option.getD_some, if_true, if_false]) ?_
  refine EvC.frame (fun tm => tm.get 1 = some (.pointer (some ⟨H.next, 0, none⟩))) (by simp only [Tr.get_put, Nat.reduceEqDiff, if_false]; exact g1) ?_
  clear g1 g23 tm
  rintro tm g1
  -- an integer
  refine EvC.seq (EvC.reg ?_)
  by_cases k3 : t.kind = 3
  · have q3 : (t.kind == 3) = true := by simp [k3]
    have q4 : (t.kind == 4) = false := by simp [k3]
    try simp (config := { maxSteps := 2000000 }) (disch := omega) only [EL_cons, EL_guard, LX_val, LX_call, LG_tt, dop_move, dop_load, dop_fieldAddr, dop_bin, ev_const, ev_tmp, Tr.get_put, put_some, Nat.reduceEqDiff, Option.getD_some, Nat.add_zero, Nat.zero_add, if_true, if_false, dload1_some, List.map_cons, List.map_nil, thenC_normal, guardOf_eq, guardGet_some, List.getElem?_cons_succ, List.getElem?_cons_zero, dBin_eql, dop_un, g1, m0, m2, q3, dFieldAddr_at fld26_0 one3, dFieldAddr_at fld26_2 one9, dLoad_one agg9, dLoad_one agg3, dop_call call102]
    refine (hN t.num _ b3 hx3.wf).mono ?_
    rintro v H4 ⟨rfl, hx4⟩
    have hb4 : H4.get H.next = some (Blk.row [Value.int IntKind.i64 t.kind, Value.string t.name, Value.string t.num, Value.int IntKind.u64 t.bits, Value.int IntKind.i64 t.var, Value.slice a t.args.length c] 26) := by rw [hx4.keep _ (Nat.lt_of_lt_of_le hlt2 hx3.next)]; exact hb3
    have n0 : H4.load ⟨H.next, 0, none⟩ 1 = some [.int .i64 t.kind] := by simp only [Heap.load, Heap.cells, hb4]; rfl
    cases hn : num t.num with
    | false =>
      try simp (config := { maxSteps := 2000000 }) (disch := omega) only [EL_cons, EL_nil, LX_val, dop_assign, dop_pick, dPick_bool, ev_const, ev_tmp, Tr.get_put, put_some, Nat.reduceEqDiff, Option.getD_some, if_true, if_false, un_not, Bool.not_false]
      refine EvC.condT (by simp only [ev_tmp, Tr.get_put, Nat.reduceEqDiff, Option.getD_some, if_true, if_false]) ?_
      (repeat refine EvC.seq ?_); refine EvC.reg ?_; simp (config := { maxSteps := 2000000 }) (disch := omega) only [EL_cons, EL_nil, LX_val, dop_assign, ev_const, put_some, thenC_normal]
      refine EvC.ret ?_
      try simp (config := { maxSteps := 2000000 }) (disch := omega) only [thenC_ret, inBlock_ret]
      exact leave_one rfl (by simp only [Tr.get_put, Nat.reduceEqDiff, if_true, if_false]; rfl) ⟨by rw [hne, if_pos ⟨k3, hn⟩], hxx3.trans hx4⟩
    | true =>
      try simp (config := { maxSteps := 2000000 }) (disch := omega) only [EL_cons, EL_nil, LX_val, dop_assign, dop_pick, dPick_bool, ev_const, ev_tmp, Tr.get_put, put_some, Nat.reduceEqDiff, Option.getD_some, if_true, if_false, un_not, Bool.not_true]
      refine EvC.condF (by simp only [ev_tmp, Tr.get_put, Nat.reduceEqDiff, Option.getD_some, if_true, if_false]) (EvC.skip ?_)
      try simp (config := { maxSteps := 2000000 }) (disch := omega) only [thenC_normal, inBlock_normal]
      (repeat refine EvC.seq ?_); refine EvC.reg ?_; simp (config := { maxSteps := 2000000 }) (disch := omega) only [EL_cons, EL_nil, LX_val, dop_load, dop_fieldAddr, dop_bin, ev_const, ev_tmp, Tr.get_put, put_some, Nat.reduceEqDiff, Option.getD_some, Nat.add_zero, if_true, if_false, dload1_some, thenC_normal, dBin_eql, g1, n0, q4, dFieldAddr_at fld26_0 one3, dLoad_one agg3]
      refine EvC.condF (by simp only [ev_tmp, Tr.get_put, Nat.reduceEqDiff, Option.getD_some, if_true, if_false]) (EvC.skip ?_)
      try simp (config := { maxSteps := 2000000 }) (disch := omega) only [thenC_normal]
      (repeat refine EvC.seq ?_); refine EvC.reg ?_; simp (config := { maxSteps := 2000000 }) (disch := omega) only [EL_cons, EL_nil, LX_val, dop_assign, ev_const, put_some, thenC_normal]
      refine EvC.ret ?_
      try simp (config := { maxSteps := 2000000 }) (disch := omega) only []
      exact leave_one rfl (by simp only [Tr.get_put, Nat.reduceEqDiff, if_true, if_false]; rfl) ⟨by rw [hne, if_neg (by rw [hn]; simp), if_neg (by rw [k3]; simp)], hxx3.trans hx4⟩
  have q3 : (t.kind == 3) = false := by simp [k3]
  rw [if_neg (fun h => k3 h.1)] at hne
  try simp (config := { maxSteps := 2000000 }) (disch := omega) only [EL_cons, EL_nil, EL_guard, LX_val, LG_tf, dop_assign, dop_move, dop_pick, dPick_bool, dop_load, dop_fieldAddr, dop_bin, ev_const, ev_tmp, Tr.get_put, put_some, Nat.reduceEqDiff, Option.getD_some, Nat.add_zero, if_true, if_false, dload1_some, thenC_normal, guardOf_eq, guardGet_some, List.getElem?_cons_succ, List.getElem?_cons_zero, dBin_eql, g1, m0, q3, dFieldAddr_at fld26_0 one3, dLoad_one agg3, Bool.false_eq_true]
  refine EvC.condF (by simp only [ev_tmp, Tr.get_put, Nat.reduceEqDiff, Option.getD_some, if_true, if_false]) (EvC.skip ?_)
  try simp (config := { maxSteps := 2000000 }) (disch := omega) only [thenC_normal, inBlock_normal]
  -- a float
  by_cases k4 : t.kind = 4
  · have q4 : (t.kind == 4) = true := by simp [k4]
    (repeat refine EvC.seq ?_); refine EvC.reg ?_; simp (config := { maxSteps := 2000000 }) (disch := omega) only [EL_cons, EL_nil, LX_val, dop_load, dop_fieldAddr, dop_bin, ev_const, ev_tmp, Tr.get_put, put_some, Nat.reduceEqDiff, Option.getD_some, Nat.add_zero, if_true, if_false, dload1_some, thenC_normal, dBin_eql, g1, m0, q4, dFieldAddr_at fld26_0 one3, dLoad_one agg3]
    refine EvC.condT (by simp only [ev_tmp, Tr.get_put, Nat.reduceEqDiff, Option.getD_some, if_true, if_false]) ?_
    (repeat refine EvC.seq ?_); refine EvC.reg ?_; simp (config := { maxSteps := 2000000 }) (disch := omega) only [EL_cons, LX_val, dop_load, dop_fieldAddr, ev_tmp, Tr.get_put, put_some, Nat.reduceEqDiff, Option.getD_some, Nat.zero_add, if_true, if_false, dload1_some, thenC_normal, g1, m3, dFieldAddr_at fld26_3 one23, dLoad_one agg23]
    rw [dop_frombits (n := t.bits) (by simp only [Tr.get_put, Nat.reduceEqDiff, if_true, if_false])]
    try simp (config := { maxSteps := 2000000 }) (disch := omega) only [EL_cons, EL_nil, LX_val, dop_assign, ev_tmp, Tr.get_put, put_some, Nat.reduceEqDiff, Option.getD_some, if_true, if_false]
    refine EvC.frame (fun tm => tm.get 1 = some (.pointer (some ⟨H.next, 0, none⟩)) ∧ tm.get 3 = some (.float .f64 t.bits.toNat)) ⟨by simp only [Tr.get_put, Nat.reduceEqDiff, if_false]; exact g1, by simp only [Tr.get_put, Nat.reduceEqDiff, if_true, if_false]⟩ ?_
    clear g1 tm
    rintro tm ⟨g1, g3⟩
    (repeat refine EvC.seq ?_); refine EvC.reg ?_; simp (config := { maxSteps := 2000000 }) (disch := omega) only [EL_cons, EL_guard, LX_val, LX_call, dop_move, ev_tmp, Tr.get_put, put_some, Nat.reduceEqDiff, Option.getD_some, if_true, if_false, List.map_cons, List.map_nil, thenC_normal, guardOf_eq, guardGet_some, List.getElem?_cons_succ, List.getElem?_cons_zero, g3, dop_call call103]
    refine (hF t.bits _ b4 hx3.wf).1.mono ?_
    rintro v H4 ⟨rfl, hx4⟩
    have hb4 : H4.get H.next = some (Blk.row [Value.int IntKind.i64 t.kind, Value.string t.name, Value.string t.num, Value.int IntKind.u64 t.bits, Value.int IntKind.i64 t.var, Value.slice a t.args.length c] 26) := by rw [hx4.keep _ (Nat.lt_of_lt_of_le hlt2 hx3.next)]; exact hb3
    cases hn : fn t.bits with
    | true =>
      try simp (config := { maxSteps := 2000000 }) (disch := omega) only [EL_cons, EL_nil, EL_guard, LX_val, LG_ft, dop_move, dop_pick, dPick_bool, ev_const, ev_tmp, Tr.get_put, put_some, Nat.reduceEqDiff, Option.getD_some, if_true, if_false, guardOf_eq, guardGet_some, List.getElem?_cons_succ, List.getElem?_cons_zero]
      refine EvC.condT (by simp only [ev_tmp, Tr.get_put, Nat.reduceEqDiff, Option.getD_some, if_true, if_false]) ?_
      (repeat refine EvC.seq ?_); refine EvC.reg ?_; simp (config := { maxSteps := 2000000 }) (disch := omega) only [EL_cons, EL_nil, LX_val, dop_assign, ev_const, put_some, thenC_normal]
      refine EvC.ret ?_
      try simp (config := { maxSteps := 2000000 }) (disch := omega) only [thenC_ret]
      exact leave_one rfl (by simp only [Tr.get_put, Nat.reduceEqDiff, if_true, if_false]; rfl) ⟨by rw [hne, if_pos ⟨k4, by rw [hn]; rfl⟩], hxx3.trans hx4⟩
    | false =>
    try simp (config := { maxSteps := 2000000 }) (disch := omega) only [EL_cons, EL_guard, LX_val, LX_call, LG_ff, dop_move, dop_pick, dPick_bool, ev_const, ev_tmp, Tr.get_put, put_some, Nat.reduceEqDiff, Option.getD_some, if_true, if_false, List.map_cons, List.map_nil, guardOf_eq, guardGet_some, List.getElem?_cons_succ, List.getElem?_cons_zero, g3, Bool.false_eq_true, dop_call call104]
    refine (hF t.bits _ b4 hx4.wf).2.mono ?_
    rintro v H5 ⟨rfl, hx5⟩
    have hb5 : H5.get H.next = some (Blk.row [Value.int IntKind.i64 t.kind, Value.string t.name, Value.string t.num, Value.int IntKind.u64 t.bits, Value.int IntKind.i64 t.var, Value.slice a t.args.length c] 26) := by rw [hx5.keep _ (Nat.lt_of_lt_of_le (Nat.lt_of_lt_of_le hlt2 hx3.next) hx4.next)]; exact hb4
    have n3 : H5.load ⟨H.next, 3, none⟩ 1 = some [.int .u64 t.bits] := by simp only [Heap.load, Heap.cells, hb5]; rfl
    cases hi : fi t.bits with
    | true =>
      try simp (config := { maxSteps := 2000000 }) (disch := omega) only [EL_cons, EL_nil, EL_guard, LX_val, LG_ft, dop_pick, dPick_bool, ev_const, ev_tmp, Tr.get_put, put_some, Nat.reduceEqDiff, Option.getD_some, if_true, if_false, guardOf_eq, guardGet_some, List.getElem?_cons_succ, List.getElem?_cons_zero]
      refine EvC.condT (by simp only [ev_tmp, Tr.get_put, Nat.reduceEqDiff, Option.getD_some, if_true, if_false]) ?_
      (repeat refine EvC.seq ?_); refine EvC.reg ?_; simp (config := { maxSteps := 2000000 }) (disch := omega) only [EL_cons, EL_nil, LX_val, dop_assign, ev_const, put_some, thenC_normal]
      refine EvC.ret ?_
      try simp (config := { maxSteps := 2000000 }) (disch := omega) only [thenC_ret]
      exact leave_one rfl (by simp only [Tr.get_put, Nat.reduceEqDiff, if_true, if_false]; rfl) ⟨by rw [hne, if_pos ⟨k4, by rw [hn, hi]; rfl⟩], (hxx3.trans hx4).trans hx5⟩
    | false =>
    cases hz : (t.bits == 9223372036854775808) with
    | true =>
      try simp (config := { maxSteps := 2000000 }) (disch := omega) only [EL_cons, EL_nil, EL_guard, LX_val, LG_ff, dop_pick, dPick_bool, dop_load, dop_fieldAddr, dop_bin, ev_const, ev_tmp, Tr.get_put, put_some, Nat.reduceEqDiff, Option.getD_some, Nat.zero_add, if_true, if_false, dload1_some, guardOf_eq, guardGet_some, List.getElem?_cons_succ, List.getElem?_cons_zero, dBin_eql, g1, n3, hz, dFieldAddr_at fld26_3 one23, dLoad_one agg23, Bool.false_eq_true]
      refine EvC.condT (by simp only [ev_tmp, Tr.get_put, Nat.reduceEqDiff, Option.getD_some, if_true, if_false]) ?_
      (repeat refine EvC.seq ?_); refine EvC.reg ?_; simp (config := { maxSteps := 2000000 }) (disch := omega) only [EL_cons, EL_nil, LX_val, dop_assign, ev_const, put_some, thenC_normal]
      refine EvC.ret ?_
      try simp (config := { maxSteps := 2000000 }) (disch := omega) only [thenC_ret]
      exact leave_one rfl (by simp only [Tr.get_put, Nat.reduceEqDiff, if_true, if_false]; rfl) ⟨by rw [hne, if_pos ⟨k4, by rw [hn, hi, hz]; rfl⟩], (hxx3.trans hx4).trans hx5⟩
    | false =>
      try simp (config := { maxSteps := 2000000 }) (disch := omega) only [EL_cons, EL_nil, EL_guard, LX_val, LG_ff, dop_pick, dPick_bool, dop_load, dop_fieldAddr, dop_bin, ev_const, ev_tmp, Tr.get_put, put_some, Nat.reduceEqDiff, Option.getD_some, Nat.zero_add, if_true, if_false, dload1_some, guardOf_eq, guardGet_some, List.getElem?_cons_succ, List.getElem?_cons_zero, dBin_eql, g1, n3, hz, dFieldAddr_at fld26_3 one23, dLoad_one agg23, Bool.false_eq_true]
      refine EvC.condF (by simp only [ev_tmp, Tr.get_put, Nat.reduceEqDiff, Option.getD_some, if_true, if_false]) (EvC.skip ?_)
      try simp (config := { maxSteps := 2000000 }) (disch := omega) only [thenC_normal]
      (repeat refine EvC.seq ?_); refine EvC.reg ?_; simp (config := { maxSteps := 2000000 }) (disch := omega) only [EL_cons, EL_nil, LX_val, dop_assign, ev_const, put_some, thenC_normal]
      refine EvC.ret ?_
      try simp (config := { maxSteps := 2000000 }) (disch := omega) only []
      exact leave_one rfl (by simp only [Tr.get_put, Nat.reduceEqDiff, if_true, if_false]; rfl) ⟨by rw [hne, if_neg (by rw [hn, hi, hz]; simp)], (hxx3.trans hx4).trans hx5⟩
  have q4 : (t.kind == 4) = false := by simp [k4]
  (repeat refine EvC.seq ?_); refine EvC.reg ?_; simp (config := { maxSteps := 2000000 }) (disch := omega) only [EL_cons, EL_nil, LX_val, dop_load, dop_fieldAddr, dop_bin, ev_const, ev_tmp, Tr.get_put, put_some, Nat.reduceEqDiff, Option.getD_some, Nat.add_zero, if_true, if_false, dload1_some, thenC_normal, dBin_eql, g1, m0, q4, dFieldAddr_at fld26_0 one3, dLoad_one agg3]
  refine EvC.condF (by simp only [ev_tmp, Tr.get_put, Nat.reduceEqDiff, Option.getD_some, if_true, if_false]) (EvC.skip ?_)
  try simp (config := { maxSteps := 2000000 }) (disch := omega) only [thenC_normal]
  (repeat refine EvC.seq ?_); refine EvC.reg ?_; simp (config := { maxSteps := 2000000 }) (disch := omega) only [EL_cons, EL_nil, LX_val, dop_assign, ev_const, put_some, thenC_normal]
  refine EvC.ret ?_
  try simp (config := { maxSteps := 2000000 }) (disch := omega) only []
  exact leave_one rfl (by simp only [Tr.get_put, Nat.reduceEqDiff, if_true, if_false]; rfl) ⟨by rw [hne, if_neg (fun h => k4 h.1)], hxx3⟩
end Go.Proofs.YtlllbkjiadcloaaDoor.hb
end

-- W6
section
/- All nodes of a term; Check. -/
namespace Go.Proofs.YtlllbkjiadcloaaDoor.hb
open Go Go.RowKit Go.Hb

theorem call50 : callable Tryd.prog 50 = true := by kernel_rfl
theorem call51 : callable Tryd.prog 51 = true := by kernel_rfl
theorem call84 : callable Tryd.prog 84 = true := by kernel_rfl
theorem call85 : callable Tryd.prog 85 = true := by kernel_rfl
theorem call15 : callable Tryd.prog 15 = true := by kernel_rfl
theorem call16 : callable Tryd.prog 16 = true := by kernel_rfl

mutual
/-- what is wrong with the first node that is -/
def allE (E : Tm → Int) : Tm → Int
  | .mk k s u b v l => if E (.mk k s u b v l) = 0 then allL E l else E (.mk k s u b v l)
def allL (E : Tm → Int) : List Tm → Int
  | [] => 0
  | t :: l => if allE E t = 0 then allL E l else allE E t
end
theorem allE_eq (E : Tm → Int) (t : Tm) : allE E t = if E t = 0 then allL E t.args else E t := by
  obtain ⟨k, s, u, b, v, l⟩ := t
  rw [allE]; rfl
theorem allL_drop {E : Tm → Int} {l : List Tm} {i : Nat} {t : Tm} (h : l[i]? = some t) : allL E (l.drop i) = if allE E t = 0 then allL E (l.drop (i + 1)) else allE E t := by
  have hlt := (List.getElem?_eq_some_iff.1 h).1
  have he : l[i] = t := (List.getElem?_eq_some_iff.1 h).2
  rw [List.drop_eq_getElem_cons hlt, allL, he]
def checkE (E : Tm → Int) (t : Tm) : Int := if 4000 < cnt t 0 then 24 else allE E t

/-- a call that tells a number of a term, and leaves all as it is -/
def TellsT (ok : Ok) (f : FuncId) (E : Tm → Int) : Prop := ∀ (t : Tm) (cs : List Value) (H : Heap), RepT H t cs → H.wf → EvF Tryd.prog ok f [.agg ⟨cs⟩] H fun v H' => v = .int .i64 (E t) ∧ HX H H'

theorem bne_of {n : Int} (h : n ≠ 0) : (n != 0) = true := by simp [h]
theorem bne_no {n : Int} (h : n = 0) : (n != 0) = false := by simp [h]

variable {ok : Ok}
set_option maxRecDepth 10000 in
set_option maxHeartbeats 2000000 in
theorem nodes_all_ev {E : Tm → Int} (hE : TellsT ok 84 E) (hk : ∀ args H, ok.K 50 args H = none) (hm : ok.testBit 50 = true) : TellsT ok 50 (allE E) := by
  have main : ∀ (m : Nat) {t : Tm} {cs : List Value} {H : Heap}, SizeOf.sizeOf t < m → RepT H t cs → H.wf → EvF Tryd.prog ok 50 [.agg ⟨cs⟩] H fun v H' => v = .int .i64 (allE E t) ∧ HX H H' := by
    intro m
    induction m with
    | zero => intro t cs H h; omega
    | succ m ih =>
    intro t cs H hsz r hw
    have rr := r
    obtain ⟨a, c, cells, rfl, b1, b2, b3, b4, b5, rl⟩ := r.inv
    have hx := (HX.refl hw).new (some (Blk.row [Value.int IntKind.i64 t.kind, Value.string t.name, Value.string t.num, Value.int IntKind.u64 t.bits, Value.int IntKind.i64 t.var, Value.slice a t.args.length c] 26))
    refine EvF.enter (hk _ _) Tryd.func50 hm rfl ?_
    (repeat refine EvC.seq ?_); refine EvC.reg ?_; simp (config := { maxSteps := 2000000 }) (disch := omega) only [initTm, EL_cons, EL_nil, LX_val, dop_box, dBox, dop_assign, ev_const, ev_tmp, Tr.get_put, put_some, Option.getD_some, Value.cells, List.all_cons, List.all_nil, one, Bool.and_self, if_true, thenC_normal]
    (repeat refine EvC.seq ?_); refine EvC.reg ?_; simp (config := { maxSteps := 2000000 }) (disch := omega) only [EL_cons, EL_nil, LX_val, LX_call, dop_assign, dop_load, ev_tmp, Tr.get_put, put_some, Nat.reduceEqDiff, Option.getD_some, Nat.reduceAdd, Nat.zero_add, reduceCtorEq, if_true, if_false, load_new, cutC, dloadA_some, List.drop_zero, List.take_succ_cons, List.take_zero, List.length_cons, List.length_nil, Nat.beq_refl, List.map_cons, List.map_nil, thenC_normal, dLoad_agg agg26, cells26, dop_call call84]
    refine (hE t _ _ (rr.mono hx hw) hx.wf).mono ?_
    rintro v H2 ⟨rfl, hx2⟩
    have hxx := hx.trans hx2
    have hb2 : H2.get H.next = some (Blk.row [Value.int IntKind.i64 t.kind, Value.string t.name, Value.string t.num, Value.int IntKind.u64 t.bits, Value.int IntKind.i64 t.var, Value.slice a t.args.length c] 26) := by rw [hx2.keep _ (Nat.lt_succ_self _), Heap.get_new, if_pos rfl]
    have l5 : H2.load ⟨H.next, 5, none⟩ 1 = some [.slice a t.args.length c] := by simp only [Heap.load, Heap.cells, hb2]; rfl
    try simp (config := { maxSteps := 2000000 }) (disch := omega) only []
    by_cases he : E t = 0
    · (repeat refine EvC.seq ?_); refine EvC.reg ?_; simp (config := { maxSteps := 2000000 }) (disch := omega) only [EL_cons, EL_nil, LX_val, dop_move, dop_bin, ev_const, ev_tmp, Tr.get_put, put_some, Nat.reduceEqDiff, Option.getD_some, reduceCtorEq, if_true, if_false, thenC_normal, dBin_neq, bne_no he]
      refine EvC.condF (by simp only [ev_tmp, Tr.get_put, Nat.reduceEqDiff, Option.getD_some, reduceCtorEq, if_true, if_false]) (EvC.skip ?_)
      try simp (config := { maxSteps := 2000000 }) (disch := omega) only [thenC_normal]
      (repeat refine EvC.seq ?_); refine EvC.reg ?_; simp (config := { maxSteps := 2000000 }) (disch := omega) only [EL_cons, EL_nil, LX_val, dop_move, dop_load, dop_fieldAddr, ev_const, ev_tmp, Tr.get_put, put_some, Nat.reduceEqDiff, Option.getD_some, Nat.zero_add, reduceCtorEq, if_true, if_false, dload1_some, thenC_normal, dop_len, dFieldAddr_at fld26_5 one24, dLoad_one agg24, l5, dLn_slice Tryd.underlying24]
      (repeat refine EvC.seq ?_); refine EvC.block (EvC.loop (fun k st => ∃ tm H' i, st = ⟨tm, [], H'⟩ ∧ k = t.args.length - i ∧ i ≤ t.args.length ∧ allL E (t.args.drop i) = allE E t ∧
        tm.get 13 = some (.slice a t.args.length c) ∧ tm.get 14 = some (.int .i64 t.args.length) ∧ tm.get 15 = some (.int .i64 (i : Nat)) ∧ HX H H') ?_ t.args.length _ ?_)
      · rintro k st ⟨tm, H', i, rfl, hk', hi, hc, g13, g14, g15, hx'⟩
        (repeat refine EvC.seq ?_); refine EvC.reg ?_; simp (config := { maxSteps := 2000000 }) (disch := omega) only [EL_cons, EL_nil, LX_val, dop_bin, dBin_lss, ev_tmp, put_some, Option.getD_some, thenC_normal, g14, g15]
        by_cases hlt : i < t.args.length
        · (repeat refine EvC.seq ?_); refine EvC.condT (by simp only [ev_tmp, Tr.get_put, Option.getD_some, if_true]; exact congrArg _ (decide_eq_true (by omega))) (EvC.skip ?_)
          obtain ⟨b, o, rfl, hload, hrep⟩ := rl.at (i := i) (List.getElem?_eq_getElem hlt)
          obtain ⟨a', c', cells', hcell, -⟩ := hrep.inv
          have hld := hx'.load hw hload
          rw [hcell] at hld hrep
          try simp (config := { maxSteps := 2000000 }) (disch := omega) only [thenC_normal]
          (repeat refine EvC.seq ?_); refine EvC.block ?_
          (repeat refine EvC.seq ?_); refine EvC.reg ?_; simp (config := { maxSteps := 2000000 }) (disch := omega) only [EL_cons, EL_nil, LX_val, dop_load, dop_store, dop_indexAddr, dop_alloc, dAlloc, ev_tmp, Tr.get_put, put_some, put_none, Nat.reduceEqDiff, Option.getD_some, Nat.reduceAdd, Nat.zero_add, List.all_cons, List.all_nil, one, Bool.and_self, if_true, if_false, get_new, dloadA_some, List.drop_succ_cons, List.length_cons, List.length_nil, Nat.beq_refl, dStoreIf_true, dStoreB_row, splice_zero, List.append_nil, Nat.le_refl, and_self, List.drop_nil, thenC_normal, g13, g15, dIndexAddr_slice Tryd.underlying24 info26 hlt, dLoad_agg agg26, cells26, hld, zero26, dStore_agg info26]
          (repeat refine EvC.seq ?_); refine EvC.reg ?_; simp (config := { maxSteps := 2000000 }) (disch := omega) only [EL_cons, EL_nil, LX_val, LX_call, dop_assign, dop_load, ev_tmp, Tr.get_put, put_some, Nat.reduceEqDiff, Option.getD_some, Nat.reduceAdd, Nat.zero_add, if_true, if_false, load_new, load_put, cutC, dloadA_some, List.drop_zero, List.take_succ_cons, List.take_zero, List.length_cons, List.length_nil, Nat.beq_refl, List.map_cons, List.map_nil, thenC_normal, dLoad_agg agg26, cells26, dop_call call50]
          have hx3 := (hx'.new (some (Blk.row [Value.int IntKind.i64 0, Value.string ByteArray.empty, Value.string ByteArray.empty, Value.int IntKind.u64 0, Value.int IntKind.i64 0, Value.slice none 0 0] 26))).put (i := H'.next) hx'.next (Nat.lt_succ_self _)
            (some (.row [Value.int IntKind.i64 t.args[i].kind, Value.string t.args[i].name, Value.string t.args[i].num, Value.int IntKind.u64 t.args[i].bits, Value.int IntKind.i64 t.args[i].var, Value.slice a' t.args[i].args.length c'] 26))
          have ht : t.args[i]? = some t.args[i] := List.getElem?_eq_getElem hlt
          have hs := args_size ht
          refine (ih (t := t.args[i]) (by omega) (hrep.mono hx3 hw) hx3.wf).mono ?_
          rintro v H4 ⟨rfl, hx4⟩
          have hL : t.args.length ≤ 9223372036854775807 := Nat.le_trans rl.len rl.cap
          have hd := allL_drop (E := E) ht
          try simp (config := { maxSteps := 2000000 }) (disch := omega) only []
          by_cases hz : allE E t.args[i] = 0
          · (repeat refine EvC.seq ?_); refine EvC.reg ?_; simp (config := { maxSteps := 2000000 }) (disch := omega) only [EL_cons, EL_nil, LX_val, dop_move, dop_bin, ev_const, ev_tmp, Tr.get_put, put_some, Nat.reduceEqDiff, Option.getD_some, if_true, if_false, thenC_normal, dBin_neq, bne_no hz]
            refine EvC.condF (by simp only [ev_tmp, Tr.get_put, Nat.reduceEqDiff, Option.getD_some, if_true, if_false]) (EvC.skip ?_)
            try simp (config := { maxSteps := 2000000 }) (disch := omega) only [thenC_normal, inBlock_normal]
            (repeat refine EvC.seq ?_); refine EvC.reg ?_; simp (config := { maxSteps := 2000000 }) (disch := omega) only [EL_cons, EL_nil, LX_val, dop_move, dop_bin, dBin_add, ev_const, ev_tmp, Tr.get_put, put_some, Nat.reduceEqDiff, Option.getD_some, if_true, if_false, thenC_normal, g15, wrap_i64]
            exact ⟨t.args.length - (i + 1), by omega, _, _, i + 1, rfl, rfl, by omega, by rw [← hc, hd, if_pos hz], by simp only [Tr.get_put, Nat.reduceEqDiff, if_false]; exact g13, by simp only [Tr.get_put, Nat.reduceEqDiff, if_false]; exact g14, by simp only [Tr.get_put, Nat.reduceEqDiff, if_true, if_false]; rfl, hx3.trans hx4⟩
          · (repeat refine EvC.seq ?_); refine EvC.reg ?_; simp (config := { maxSteps := 2000000 }) (disch := omega) only [EL_cons, EL_nil, LX_val, dop_move, dop_bin, ev_const, ev_tmp, Tr.get_put, put_some, Nat.reduceEqDiff, Option.getD_some, if_true, if_false, thenC_normal, dBin_neq, bne_of hz]
            refine EvC.condT (by simp only [ev_tmp, Tr.get_put, Nat.reduceEqDiff, Option.getD_some, if_true, if_false]) ?_
            (repeat refine EvC.seq ?_); refine EvC.reg ?_; simp (config := { maxSteps := 2000000 }) (disch := omega) only [EL_cons, EL_nil, LX_val, dop_assign, dop_move, ev_tmp, Tr.get_put, put_some, Nat.reduceEqDiff, Option.getD_some, if_true, if_false, thenC_normal]
            refine EvC.ret ?_
            try simp (config := { maxSteps := 2000000 }) (disch := omega) only [thenC_ret, inBlock_ret]
            exact leave_one rfl (by simp only [Tr.get_put, Nat.reduceEqDiff, if_true, if_false]; rfl) ⟨by rw [← hc, hd, if_neg hz], hx3.trans hx4⟩
        · (repeat refine EvC.seq ?_); refine EvC.condF (by simp only [ev_tmp, Tr.get_put, Option.getD_some, if_true]; exact congrArg _ (decide_eq_false (by omega))) (EvC.exit ?_)
          try simp (config := { maxSteps := 2000000 }) (disch := omega) only [if_true, thenC_normal, inBlock_exit, thenC_exit]
          (repeat refine EvC.seq ?_); refine EvC.reg ?_; simp (config := { maxSteps := 2000000 }) (disch := omega) only [EL_cons, EL_nil, LX_val, dop_assign, ev_const, put_some, thenC_normal]
          refine EvC.ret (leave_one rfl (by simp only [Tr.get_put, Nat.reduceEqDiff, if_true, if_false]; rfl) ⟨?_, hx'⟩)
          rw [← hc, List.drop_of_length_le (by omega), allL]
      · exact ⟨_, _, 0, rfl, rfl, by omega, by rw [allE_eq, if_pos he]; rfl, by simp only [Tr.get_put, Nat.reduceEqDiff, reduceCtorEq, if_true, if_false], by simp only [Tr.get_put, Nat.reduceEqDiff, reduceCtorEq, if_true, if_false], by simp only [Tr.get_put, Nat.reduceEqDiff, reduceCtorEq, if_true, if_false]; rfl, hxx⟩
    · (repeat refine EvC.seq ?_); refine EvC.reg ?_; simp (config := { maxSteps := 2000000 }) (disch := omega) only [EL_cons, EL_nil, LX_val, dop_move, dop_bin, ev_const, ev_tmp, Tr.get_put, put_some, Nat.reduceEqDiff, Option.getD_some, reduceCtorEq, if_true, if_false, thenC_normal, dBin_neq, bne_of he]
      refine EvC.condT (by simp only [ev_tmp, Tr.get_put, Nat.reduceEqDiff, Option.getD_some, reduceCtorEq, if_true, if_false]) ?_
      (repeat refine EvC.seq ?_); refine EvC.reg ?_; simp (config := { maxSteps := 2000000 }) (disch := omega) only [EL_cons, EL_nil, LX_val, dop_assign, dop_move, ev_tmp, Tr.get_put, put_some, Nat.reduceEqDiff, Option.getD_some, reduceCtorEq, if_true, if_false, thenC_normal]
      refine EvC.ret ?_
      try simp (config := { maxSteps := 2000000 }) (disch := omega) only [thenC_ret]
      exact leave_one rfl (by simp only [Tr.get_put, Nat.reduceEqDiff, reduceCtorEq, if_true, if_false]; rfl) ⟨by rw [allE_eq, if_neg he], hxx⟩
  exact fun t cs H r hw => main _ (Nat.lt_succ_self _) r hw
end Go.Proofs.YtlllbkjiadcloaaDoor.hb
end

-- W7
section
/- All nodes of a term, the reference; both 'Check'. -/
namespace Go.Proofs.YtlllbkjiadcloaaDoor.hb
open Go Go.RowKit Go.Hb

theorem beq_of {n : Int} (h : n = 0) : (n == 0) = true := by simp [h]
theorem beq_no {n : Int} (h : n ≠ 0) : (n == 0) = false := by simp [h]

variable {ok : Ok}
set_option maxRecDepth 10000 in
set_option maxHeartbeats 2000000 in
theorem ref_all_ev {E : Tm → Int} (hE : TellsT ok 85 E) (hk : ∀ args H, ok.K 51 args H = none) (hm : ok.testBit 51 = true) : TellsT ok 51 (allE E) := by
  have main : ∀ (m : Nat) {t : Tm} {cs : List Value} {H : Heap}, SizeOf.sizeOf t < m → RepT H t cs → H.wf → EvF Tryd.prog ok 51 [.agg ⟨cs⟩] H fun v H' => v = .int .i64 (allE E t) ∧ HX H H' := by
    intro m
    induction m with
    | zero => intro t cs H h; omega
    | succ m ih =>
    intro t cs H hsz r hw
    have rr := r
    obtain ⟨a, c, cells, rfl, b1, b2, b3, b4, b5, rl⟩ := r.inv
    have hx := (HX.refl hw).new (some (Blk.row [Value.int IntKind.i64 t.kind, Value.string t.name, Value.string t.num, Value.int IntKind.u64 t.bits, Value.int IntKind.i64 t.var, Value.slice a t.args.length c] 26))
    refine EvF.enter (hk _ _) Tryd.func51 hm rfl ?_
    (repeat refine EvC.seq ?_); refine EvC.reg ?_; simp (config := { maxSteps := 2000000 }) (disch := omega) only [initTm, EL_cons, EL_nil, LX_val, dop_box, dBox, dop_assign, ev_const, ev_tmp, Tr.get_put, put_some, Option.getD_some, Value.cells, List.all_cons, List.all_nil, one, Bool.and_self, if_true, thenC_normal]
    (repeat refine EvC.seq ?_); refine EvC.reg ?_; simp (config := { maxSteps := 2000000 }) (disch := omega) only [EL_cons, EL_nil, LX_val, LX_call, dop_assign, dop_load, ev_tmp, Tr.get_put, put_some, Nat.reduceEqDiff, Option.getD_some, Nat.reduceAdd, Nat.zero_add, reduceCtorEq, if_true, if_false, load_new, cutC, dloadA_some, List.drop_zero, List.take_succ_cons, List.take_zero, List.length_cons, List.length_nil, Nat.beq_refl, List.map_cons, List.map_nil, thenC_normal, dLoad_agg agg26, cells26, dop_call call85]
    refine (hE t _ _ (rr.mono hx hw) hx.wf).mono ?_
    rintro v H2 ⟨rfl, hx2⟩
    have hxx := hx.trans hx2
    have hb2 : H2.get H.next = some (Blk.row [Value.int IntKind.i64 t.kind, Value.string t.name, Value.string t.num, Value.int IntKind.u64 t.bits, Value.int IntKind.i64 t.var, Value.slice a t.args.length c] 26) := by rw [hx2.keep _ (Nat.lt_succ_self _), Heap.get_new, if_pos rfl]
    try simp (config := { maxSteps := 2000000 }) (disch := omega) only []
    (repeat refine EvC.seq ?_); refine EvC.reg ?_; simp (config := { maxSteps := 2000000 }) (disch := omega) only [EL_cons, EL_nil, LX_val, dop_assign, ev_const, put_some, thenC_normal]
    have hlt2 : H.next < H2.next := Nat.lt_of_lt_of_le (Nat.lt_succ_self _) hx2.next
    -- e: what is known so far; where it is nought, what the rest tells
    (repeat refine EvC.seq ?_); refine EvC.block (EvC.loop (fun k st => ∃ tm H' i e, st = ⟨tm, [], H'⟩ ∧ k = t.args.length - i ∧ i ≤ t.args.length ∧ (if e = 0 then allL E (t.args.drop i) else e) = allE E t ∧
        tm.get 1 = some (.pointer (some ⟨H.next, 0, none⟩)) ∧ tm.get 3 = some (.int .i64 e) ∧ tm.get 4 = some (.int .i64 (i : Nat)) ∧ H'.get H.next = some (Blk.row [Value.int IntKind.i64 t.kind, Value.string t.name, Value.string t.num, Value.int IntKind.u64 t.bits, Value.int IntKind.i64 t.var, Value.slice a t.args.length c] 26) ∧ H.next < H'.next ∧ HX H H') ?_ t.args.length _ ?_)
    · rintro k st ⟨tm, H', i, e, rfl, hk', hi, hc, g1, g3, g4, hb, hlt0, hx'⟩
      have l5 : H'.load ⟨H.next, 5, none⟩ 1 = some [.slice a t.args.length c] := by simp only [Heap.load, Heap.cells, hb]; rfl
      by_cases hlt : i < t.args.length
      · have hd1 : decide ((i : Int) < (t.args.length : Int)) = true := decide_eq_true (by omega)
        by_cases he : e = 0
        · (repeat refine EvC.seq ?_); refine EvC.reg ?_; simp (config := { maxSteps := 2000000 }) (disch := omega) only [EL_cons, EL_nil, EL_guard, LX_val, LG_tt, dop_move, dop_pick, dPick_bool, dop_load, dop_fieldAddr, dop_bin, dBin_lss, ev_const, ev_tmp, Tr.get_put, put_some, Nat.reduceEqDiff, Option.getD_some, Nat.zero_add, if_true, if_false, dload1_some, thenC_normal, guardOf_eq, guardGet_some, List.getElem?_cons_succ, List.getElem?_cons_zero, dBin_eql, dop_len, g1, g3, g4, dFieldAddr_at fld26_5 one24, dLoad_one agg24, l5, dLn_slice Tryd.underlying24, hd1, beq_of he]
          (repeat refine EvC.seq ?_); refine EvC.condT (by simp only [ev_tmp, Tr.get_put, Nat.reduceEqDiff, Option.getD_some, if_true, if_false]) (EvC.skip ?_)
          obtain ⟨b, o, rfl, hload, hrep⟩ := rl.at (i := i) (List.getElem?_eq_getElem hlt)
          obtain ⟨a', c', cells', hcell, -⟩ := hrep.inv
          have hld := hx'.load hw hload
          rw [hcell] at hld hrep
          try simp (config := { maxSteps := 2000000 }) (disch := omega) only [thenC_normal]
          (repeat refine EvC.seq ?_); refine EvC.block ?_
          (repeat refine EvC.seq ?_); refine EvC.reg ?_; simp (config := { maxSteps := 2000000 }) (disch := omega) only [EL_cons, EL_nil, LX_val, LX_call, dop_assign, dop_move, dop_load, dop_fieldAddr, dop_indexAddr, ev_tmp, Tr.get_put, put_some, Nat.reduceEqDiff, Option.getD_some, Nat.zero_add, if_true, if_false, dloadA_some, dload1_some, List.map_cons, List.map_nil, thenC_normal, inBlock_normal, g1, g4, dFieldAddr_at fld26_5 one24, dLoad_one agg24, l5, dIndexAddr_slice Tryd.underlying24 info26 hlt, dLoad_agg agg26, cells26, hld, dop_call call51]
          have ht : t.args[i]? = some t.args[i] := List.getElem?_eq_getElem hlt
          have hs := args_size ht
          refine (ih (t := t.args[i]) (by omega) (hrep.mono hx' hw) hx'.wf).mono ?_
          rintro v H4 ⟨rfl, hx4⟩
          have hL : t.args.length ≤ 9223372036854775807 := Nat.le_trans rl.len rl.cap
          try simp (config := { maxSteps := 2000000 }) (disch := omega) only []
          (repeat refine EvC.seq ?_); refine EvC.reg ?_; simp (config := { maxSteps := 2000000 }) (disch := omega) only [EL_cons, EL_nil, LX_val, dop_assign, dop_move, dop_bin, dBin_add, ev_const, ev_tmp, Tr.get_put, put_some, Nat.reduceEqDiff, Option.getD_some, if_true, if_false, thenC_normal, g4, wrap_i64]
          exact ⟨t.args.length - (i + 1), by omega, _, _, i + 1, allE E t.args[i], rfl, rfl, by omega, by rw [← hc, if_pos he, allL_drop (E := E) ht], by simp only [Tr.get_put, Nat.reduceEqDiff, if_false]; exact g1, by simp only [Tr.get_put, Nat.reduceEqDiff, if_true, if_false], by simp only [Tr.get_put, Nat.reduceEqDiff, if_true, if_false]; rfl, by rw [hx4.keep _ hlt0]; exact hb, Nat.lt_of_lt_of_le hlt0 hx4.next, hx'.trans hx4⟩
        · (repeat refine EvC.seq ?_); refine EvC.reg ?_; simp (config := { maxSteps := 2000000 }) (disch := omega) only [EL_cons, EL_nil, EL_guard, LX_val, LG_tt, dop_move, dop_pick, dPick_bool, dop_load, dop_fieldAddr, dop_bin, dBin_lss, ev_const, ev_tmp, Tr.get_put, put_some, Nat.reduceEqDiff, Option.getD_some, Nat.zero_add, if_true, if_false, dload1_some, thenC_normal, guardOf_eq, guardGet_some, List.getElem?_cons_succ, List.getElem?_cons_zero, dBin_eql, dop_len, g1, g3, g4, dFieldAddr_at fld26_5 one24, dLoad_one agg24, l5, dLn_slice Tryd.underlying24, hd1, beq_no he]
          (repeat refine EvC.seq ?_); refine EvC.condF (by simp only [ev_tmp, Tr.get_put, Nat.reduceEqDiff, Option.getD_some, if_true, if_false]) (EvC.exit ?_)
          try simp (config := { maxSteps := 2000000 }) (disch := omega) only [if_true, thenC_normal, inBlock_exit, thenC_exit]
          (repeat refine EvC.seq ?_); refine EvC.reg ?_; simp (config := { maxSteps := 2000000 }) (disch := omega) only [EL_cons, EL_nil, LX_val, dop_assign, dop_move, ev_tmp, Tr.get_put, put_some, Nat.reduceEqDiff, Option.getD_some, if_true, if_false, thenC_normal, g3]
          refine EvC.ret (leave_one rfl (by simp only [Tr.get_put, Nat.reduceEqDiff, if_true, if_false]; rfl) ⟨by rw [← hc, if_neg he], hx'⟩)
      · have hd1 : decide ((i : Int) < (t.args.length : Int)) = false := decide_eq_false (by omega)
        (repeat refine EvC.seq ?_); refine EvC.reg ?_; simp (config := { maxSteps := 2000000 }) (disch := omega) only [EL_cons, EL_nil, EL_guard, LX_val, LG_tf, dop_move, dop_pick, dPick_bool, dop_load, dop_fieldAddr, dop_bin, dBin_lss, ev_const, ev_tmp, Tr.get_put, put_some, Nat.reduceEqDiff, Option.getD_some, Nat.zero_add, if_true, if_false, dload1_some, thenC_normal, guardOf_eq, guardGet_some, List.getElem?_cons_succ, List.getElem?_cons_zero, dop_len, g1, g4, dFieldAddr_at fld26_5 one24, dLoad_one agg24, l5, dLn_slice Tryd.underlying24, hd1, Bool.false_eq_true]
        (repeat refine EvC.seq ?_); refine EvC.condF (by simp only [ev_tmp, Tr.get_put, Nat.reduceEqDiff, Option.getD_some, if_true, if_false]) (EvC.exit ?_)
        try simp (config := { maxSteps := 2000000 }) (disch := omega) only [if_true, thenC_normal, inBlock_exit, thenC_exit]
        (repeat refine EvC.seq ?_); refine EvC.reg ?_; simp (config := { maxSteps := 2000000 }) (disch := omega) only [EL_cons, EL_nil, LX_val, dop_assign, dop_move, ev_tmp, Tr.get_put, put_some, Nat.reduceEqDiff, Option.getD_some, if_true, if_false, thenC_normal, g3]
        refine EvC.ret (leave_one rfl (by simp only [Tr.get_put, Nat.reduceEqDiff, if_true, if_false]; rfl) ⟨?_, hx'⟩)
        rw [← hc, List.drop_of_length_le (by omega), allL]
        split
        · rename_i h; rw [h]
        · rfl
    · exact ⟨_, _, 0, E t, rfl, rfl, by omega, by rw [allE_eq]; rfl, by simp only [Tr.get_put, Nat.reduceEqDiff, reduceCtorEq, if_true, if_false], by simp only [Tr.get_put, Nat.reduceEqDiff, reduceCtorEq, if_true, if_false], by simp only [Tr.get_put, Nat.reduceEqDiff, reduceCtorEq, if_true, if_false]; rfl, hb2, hlt2, hxx⟩
  exact fun t cs H r hw => main _ (Nat.lt_succ_self _) r hw

set_option maxRecDepth 10000 in
theorem check_ev {E : Tm → Int} (hN : TellsT ok 13 fun t => cnt t 0) (hE : TellsT ok 50 (allE E)) (hk : ∀ args H, ok.K 15 args H = none) (hm : ok.testBit 15 = true) : TellsT ok 15 (checkE E) := by
  intro t cs H r hw
  have rr := r
  obtain ⟨a, c, cells, rfl, b1, b2, b3, b4, b5, rl⟩ := r.inv
  have hx := (HX.refl hw).new (some (Blk.row [Value.int IntKind.i64 t.kind, Value.string t.name, Value.string t.num, Value.int IntKind.u64 t.bits, Value.int IntKind.i64 t.var, Value.slice a t.args.length c] 26))
  refine EvF.enter (hk _ _) Tryd.func15 hm rfl ?_
  (repeat refine EvC.seq ?_); refine EvC.reg ?_; simp (config := { maxSteps := 2000000 }) (disch := omega) only [initTm, EL_cons, EL_nil, LX_val, dop_box, dBox, dop_assign, ev_const, ev_tmp, Tr.get_put, put_some, Option.getD_some, Value.cells, List.all_cons, List.all_nil, one, Bool.and_self, if_true, thenC_normal]
  (repeat refine EvC.seq ?_); refine EvC.reg ?_; simp (config := { maxSteps := 2000000 }) (disch := omega) only [EL_cons, LX_val, LX_call, dop_load, dop_bin, ev_const, ev_tmp, Tr.get_put, put_some, Nat.reduceEqDiff, Option.getD_some, Nat.reduceAdd, Nat.zero_add, reduceCtorEq, if_true, if_false, load_new, cutC, dloadA_some, List.drop_zero, List.take_succ_cons, List.take_zero, List.length_cons, List.length_nil, Nat.beq_refl, List.map_cons, List.map_nil, thenC_normal, dLoad_agg agg26, cells26, dop_call call13]
  refine (hN t _ _ (rr.mono hx hw) hx.wf).mono ?_
  rintro v H2 ⟨rfl, hx2⟩
  have hxx := hx.trans hx2
  have hb2 : H2.get H.next = some (Blk.row [Value.int IntKind.i64 t.kind, Value.string t.name, Value.string t.num, Value.int IntKind.u64 t.bits, Value.int IntKind.i64 t.var, Value.slice a t.args.length c] 26) := by rw [hx2.keep _ (Nat.lt_succ_self _), Heap.get_new, if_pos rfl]
  have l6 : H2.load ⟨H.next, 0, none⟩ 6 = some [Value.int IntKind.i64 t.kind, Value.string t.name, Value.string t.num, Value.int IntKind.u64 t.bits, Value.int IntKind.i64 t.var, Value.slice a t.args.length c] := by simp only [Heap.load, Heap.cells, hb2]; rfl
  by_cases hov : 4000 < cnt t 0
  · (repeat refine EvC.seq ?_); refine EvC.condT (by simp only [ev_tmp, Tr.get_put, put_some, Nat.reduceEqDiff, Option.getD_some, reduceCtorEq, if_true, if_false]; exact congrArg _ (decide_eq_true (by omega))) ?_
    (repeat refine EvC.seq ?_); refine EvC.reg ?_; simp (config := { maxSteps := 2000000 }) (disch := omega) only [EL_cons, EL_nil, LX_val, dop_assign, ev_const, put_some, thenC_normal]
    refine EvC.ret ?_
    try simp (config := { maxSteps := 2000000 }) (disch := omega) only [thenC_ret]
    exact leave_one rfl (by simp only [Tr.get_put, Nat.reduceEqDiff, reduceCtorEq, if_true, if_false]; rfl) ⟨by rw [checkE, if_pos hov], hxx⟩
  · (repeat refine EvC.seq ?_); refine EvC.condF (by simp only [ev_tmp, Tr.get_put, put_some, Nat.reduceEqDiff, Option.getD_some, reduceCtorEq, if_true, if_false]; exact congrArg _ (decide_eq_false (by omega))) (EvC.skip ?_)
    try simp (config := { maxSteps := 2000000 }) (disch := omega) only [put_some, thenC_normal]
    (repeat refine EvC.seq ?_); refine EvC.reg ?_; simp (config := { maxSteps := 2000000 }) (disch := omega) only [EL_cons, EL_nil, LX_val, LX_call, dop_assign, dop_load, ev_tmp, Tr.get_put, put_some, Nat.reduceEqDiff, Option.getD_some, reduceCtorEq, if_true, if_false, dloadA_some, List.map_cons, List.map_nil, thenC_normal, dLoad_agg agg26, cells26, l6, dop_call call50]
    refine (hE t _ _ (rr.mono hxx hw) hx2.wf).mono ?_
    rintro v H3 ⟨rfl, hx3⟩
    try simp (config := { maxSteps := 2000000 }) (disch := omega) only []
    refine EvC.ret ?_
    try simp (config := { maxSteps := 2000000 }) (disch := omega) only []
    exact leave_one rfl (by simp only [Tr.get_put, Nat.reduceEqDiff, reduceCtorEq, if_true, if_false]; rfl) ⟨by rw [checkE, if_neg hov], hxx.trans hx3⟩

set_option maxRecDepth 10000 in
theorem ref_check_ev {E : Tm → Int} (hN : TellsT ok 14 fun t => cnt t 0) (hE : TellsT ok 51 (allE E)) (hk : ∀ args H, ok.K 16 args H = none) (hm : ok.testBit 16 = true) : TellsT ok 16 (checkE E) := by
  intro t cs H r hw
  have rr := r
  obtain ⟨a, c, cells, rfl, b1, b2, b3, b4, b5, rl⟩ := r.inv
  have hx := (HX.refl hw).new (some (Blk.row [Value.int IntKind.i64 t.kind, Value.string t.name, Value.string t.num, Value.int IntKind.u64 t.bits, Value.int IntKind.i64 t.var, Value.slice a t.args.length c] 26))
  refine EvF.enter (hk _ _) Tryd.func16 hm rfl ?_
  (repeat refine EvC.seq ?_); refine EvC.reg ?_; simp (config := { maxSteps := 2000000 }) (disch := omega) only [initTm, EL_cons, EL_nil, LX_val, dop_box, dBox, dop_assign, ev_const, ev_tmp, Tr.get_put, put_some, Option.getD_some, Value.cells, List.all_cons, List.all_nil, one, Bool.and_self, if_true, thenC_normal]
  (repeat refine EvC.seq ?_); refine EvC.reg ?_; simp (config := { maxSteps := 2000000 }) (disch := omega) only [EL_cons, LX_val, LX_call, dop_load, dop_bin, ev_const, ev_tmp, Tr.get_put, put_some, Nat.reduceEqDiff, Option.getD_some, Nat.reduceAdd, Nat.zero_add, reduceCtorEq, if_true, if_false, load_new, cutC, dloadA_some, List.drop_zero, List.take_succ_cons, List.take_zero, List.length_cons, List.length_nil, Nat.beq_refl, List.map_cons, List.map_nil, thenC_normal, dLoad_agg agg26, cells26, dop_call call14]
  refine (hN t _ _ (rr.mono hx hw) hx.wf).mono ?_
  rintro v H2 ⟨rfl, hx2⟩
  have hxx := hx.trans hx2
  have hb2 : H2.get H.next = some (Blk.row [Value.int IntKind.i64 t.kind, Value.string t.name, Value.string t.num, Value.int IntKind.u64 t.bits, Value.int IntKind.i64 t.var, Value.slice a t.args.length c] 26) := by rw [hx2.keep _ (Nat.lt_succ_self _), Heap.get_new, if_pos rfl]
  have l6 : H2.load ⟨H.next, 0, none⟩ 6 = some [Value.int IntKind.i64 t.kind, Value.string t.name, Value.string t.num, Value.int IntKind.u64 t.bits, Value.int IntKind.i64 t.var, Value.slice a t.args.length c] := by simp only [Heap.load, Heap.cells, hb2]; rfl
  by_cases hov : 4000 < cnt t 0
  · (repeat refine EvC.seq ?_); refine EvC.condT (by simp only [ev_tmp, Tr.get_put, put_some, Nat.reduceEqDiff, Option.getD_some, reduceCtorEq, if_true, if_false]; exact congrArg _ (decide_eq_true (by omega))) ?_
    (repeat refine EvC.seq ?_); refine EvC.reg ?_; simp (config := { maxSteps := 2000000 }) (disch := omega) only [EL_cons, EL_nil, LX_val, dop_assign, ev_const, put_some, thenC_normal]
    refine EvC.ret ?_
    try simp (config := { maxSteps := 2000000 }) (disch := omega) only [thenC_ret]
    exact leave_one rfl (by simp only [Tr.get_put, Nat.reduceEqDiff, reduceCtorEq, if_true, if_false]; rfl) ⟨by rw [checkE, if_pos hov], hxx⟩
  · (repeat refine EvC.seq ?_); refine EvC.condF (by simp only [ev_tmp, Tr.get_put, put_some, Nat.reduceEqDiff, Option.getD_some, reduceCtorEq, if_true, if_false]; exact congrArg _ (decide_eq_false (by omega))) (EvC.skip ?_)
    try simp (config := { maxSteps := 2000000 }) (disch := omega) only [put_some, thenC_normal]
    (repeat refine EvC.seq ?_); refine EvC.reg ?_; simp (config := { maxSteps := 2000000 }) (disch := omega) only [EL_cons, EL_nil, LX_val, LX_call, dop_assign, dop_load, ev_tmp, Tr.get_put, put_some, Nat.reduceEqDiff, Option.getD_some, reduceCtorEq, if_true, if_false, dloadA_some, List.map_cons, List.map_nil, thenC_normal, dLoad_agg agg26, cells26, l6, dop_call call51]
    refine (hE t _ _ (rr.mono hxx hw) hx2.wf).mono ?_
    rintro v H3 ⟨rfl, hx3⟩
    try simp (config := { maxSteps := 2000000 }) (disch := omega) only []
    refine EvC.ret ?_
    try simp (config := { maxSteps := 2000000 }) (disch := omega) only []
    exact leave_one rfl (by simp only [Tr.get_put, Nat.reduceEqDiff, reduceCtorEq, if_true, if_false]; rfl) ⟨by rw [checkE, if_neg hov], hxx.trans hx3⟩
end Go.Proofs.YtlllbkjiadcloaaDoor.hb
end

-- W8
section
/- Floats: the program's tests and the reference's. -/
namespace Go.Proofs.YtlllbkjiadcloaaDoor.hb
open Go Go.RowKit Go.Hb

section
variable {P : Program} {H : Heap}
theorem dBin_neqF {t : TypeId} {x y : Operand} {k : FloatKind} {a b : Nat} : dBin P .neq t x y (.float k a) (.float k b) H = some (.val (.bool (k.format.order a b != some .eq)) H) := by
  simp [dBin, dnil, flat, eqGuard, binOp, Op.floatCmp, Sem.bind]; rfl
theorem dBin_gtrF {t : TypeId} {x y : Operand} {k : FloatKind} {a b : Nat} : dBin P .gtr t x y (.float k a) (.float k b) H = some (.val (.bool (k.format.order a b == some .gt)) H) := by
  simp [dBin, dnil, flat, eqGuard, binOp, Op.floatCmp, Sem.bind]; rfl
def iAndNot (k : IntKind) (a b : Int) : Int := k.wrap (BitVec.ofInt k.bits a &&& ~~~BitVec.ofInt k.bits b).toNat
def iAnd (k : IntKind) (a b : Int) : Int := k.wrap (BitVec.ofInt k.bits a &&& BitVec.ofInt k.bits b).toNat
theorem dBin_andNot {t : TypeId} {x y : Operand} {k : IntKind} {a b : Int} : dBin P .andNot t x y (.int k a) (.int k b) H = some (.val (.int k (iAndNot k a b)) H) := by
  simp [dBin, dnil, flat, eqGuard, binOp, Op.intBits, Sem.bind, -BitVec.toNat_and, -BitVec.toNat_not, -BitVec.toNat_ofInt]; rfl
theorem dBin_and {t : TypeId} {x y : Operand} {k : IntKind} {a b : Int} : dBin P .and t x y (.int k a) (.int k b) H = some (.val (.int k (iAnd k a b)) H) := by
  simp [dBin, dnil, flat, eqGuard, binOp, Op.intBits, Sem.bind]; rfl
theorem dBin_shr {t : TypeId} {x y : Operand} {k k' : IntKind} {a b : Int} (h : 0 ≤ b) : dBin P .shr t x y (.int k a) (.int k' b) H = some (.val (.int k (a.fdiv (2 ^ (min b.toNat k.bits)))) H) := by
  have hb : ¬ b < 0 := by omega
  simp [dBin, dnil, flat, eqGuard, binOp, Op.shift, hb, Sem.bind]; rfl
end

def rhoF (n : Nat) : Operand → Value
  | .func f => .func (.func f) #[] #[]
  | _ => .float .f64 n
theorem bits_run (n : Nat) (d : Option Tmp) (k : Tmp) (ats : Array TypeId) (ty : TypeId) (pos : String) (af : Array Edge) (g : Option (Nat × Bool)) :
    pureRun Tryd.prog (execOp (rhoF n) ⟨d, .call ⟨.value (.func 143), #[.tmp k], ats⟩, ty, pos, af, g⟩) = some (.value (.int .u64 n)) := by kernel_rfl
theorem nocall143 (l : List Value) : dcall1 Tryd.prog 143 l = none := by
  unfold dcall1
  rw [Tryd.func143]
  rfl
theorem dop_bits {d : Option Tmp} {k : Tmp} {ats : Array TypeId} {ty : TypeId} {pos : String} {af : Array Edge} {g : Option (Nat × Bool)} {tm : Tr Value} {H : Heap} {n : Nat} (hv : tm.get k = some (.float .f64 n)) :
    dop Tryd.prog ⟨d, .call ⟨.value (.func 143), #[.tmp k], ats⟩, ty, pos, af, g⟩ (ev tm) H = some (.val (.int .u64 n) H) := by
  have hρ : ∀ y ∈ (⟨d, .call ⟨.value (.func 143), #[.tmp k], ats⟩, ty, pos, af, g⟩ : Oper).op.operands, ev tm y = rhoF n y := by
    intro y hy
    simp [Op.operands, Call.operands] at hy
    rcases hy with rfl | rfl
    · rfl
    · show (tm.get k).getD junk = _
      rw [hv]; rfl
  have e : dop Tryd.prog ⟨d, .call ⟨.value (.func 143), #[.tmp k], ats⟩, ty, pos, af, g⟩ (ev tm) H = dflat Tryd.prog ⟨d, .call ⟨.value (.func 143), #[.tmp k], ats⟩, ty, pos, af, g⟩ (ev tm) H := by
    simp only [dop, ev, nocall143]
  have hf : allFlat (ev tm) (⟨d, .call ⟨.value (.func 143), #[.tmp k], ats⟩, ty, pos, af, g⟩ : Oper) = true := by
    unfold allFlat
    rw [List.all_eq_true]
    intro y hy
    rw [hρ y (Array.mem_toList_iff.1 hy)]
    simp [Op.operands, Call.operands] at hy
    rcases hy with rfl | rfl <;> rfl
  rw [e]
  unfold dflat
  rw [hf, execOp_congr _ (by intro cs b h; cases h) hρ, bits_run]
  rfl

theorem call126 : callable Tryd.prog 126 = true := by kernel_rfl
def fnB (n : Int) : Bool := FloatKind.f64.format.order n.toNat n.toNat != some .eq
def absN (m : Nat) : Nat := (iAndNot .u64 m 9223372036854775808).toNat
def fiB (n : Int) : Bool := FloatKind.f64.format.order (absN n.toNat) 9218868437227405311 == some .gt

variable {ok : Ok}
set_option maxRecDepth 10000
theorem abs_ev (hk : ∀ args H, ok.K 126 args H = none) (hm : ok.testBit 126 = true) (m : Nat) (H : Heap) (hw : H.wf) : EvF Tryd.prog ok 126 [.float .f64 m] H fun v H' => v = .float .f64 (absN m) ∧ HX H H' := by
  refine EvF.enter (hk _ _) Tryd.func126 hm rfl ?_
  (repeat refine EvC.seq ?_); refine EvC.reg ?_; simp (config := { maxSteps := 2000000 }) (disch := omega) only [initTm, EL_cons, EL_nil, LX_val, dop_assign, ev_const, put_some, thenC_normal]
  (repeat refine EvC.seq ?_); refine EvC.reg ?_; simp (config := { maxSteps := 2000000 }) (disch := omega) only [EL_cons, LX_val, dop_move, ev_tmp, Tr.get_put, put_some, Option.getD_some, reduceCtorEq, if_true, if_false, thenC_normal]
  rw [dop_bits (n := m) (by simp only [Tr.get_put, Nat.reduceEqDiff, reduceCtorEq, if_true, if_false])]
  try simp (config := { maxSteps := 2000000 }) (disch := omega) only [EL_cons, LX_val, dop_bin, ev_const, ev_tmp, Tr.get_put, put_some, Nat.reduceEqDiff, Option.getD_some, reduceCtorEq, if_true, if_false, dBin_andNot]
  rw [dop_frombits (n := iAndNot .u64 m 9223372036854775808) (by simp only [Tr.get_put, Nat.reduceEqDiff, reduceCtorEq, if_true, if_false])]
  try simp (config := { maxSteps := 2000000 }) (disch := omega) only [EL_cons, EL_nil, LX_val, dop_assign, ev_tmp, Tr.get_put, put_some, Nat.reduceEqDiff, Option.getD_some, reduceCtorEq, if_true, if_false]
  refine EvC.ret ?_
  exact leave_one rfl (by simp only [Tr.get_put, Nat.reduceEqDiff, reduceCtorEq, if_true, if_false]; rfl) ⟨rfl, HX.refl hw⟩
theorem isnan_ev (hk : ∀ args H, ok.K 103 args H = none) (hm : ok.testBit 103 = true) (n : Int) (H : Heap) (hw : H.wf) : EvF Tryd.prog ok 103 [.float .f64 n.toNat] H fun v H' => v = .bool (fnB n) ∧ HX H H' := by
  refine EvF.enter (hk _ _) Tryd.func103 hm rfl ?_
  (repeat refine EvC.seq ?_); refine EvC.reg ?_; simp (config := { maxSteps := 2000000 }) (disch := omega) only [initTm, EL_cons, EL_nil, LX_val, dop_assign, ev_const, put_some, thenC_normal]
  (repeat refine EvC.seq ?_); refine EvC.reg ?_; simp (config := { maxSteps := 2000000 }) (disch := omega) only [EL_cons, EL_nil, LX_val, dop_assign, dop_move, dop_bin, ev_tmp, Tr.get_put, put_some, Nat.reduceEqDiff, Option.getD_some, reduceCtorEq, if_true, if_false, thenC_normal, dBin_neqF]
  refine EvC.ret ?_
  exact leave_one rfl (by simp only [Tr.get_put, Nat.reduceEqDiff, reduceCtorEq, if_true, if_false]; rfl) ⟨rfl, HX.refl hw⟩
theorem isinf_ev (hk : ∀ f args H, (f = 104 ∨ f = 126) → ok.K f args H = none) (hm : ok.testBit 104 = true) (hm2 : ok.testBit 126 = true) (n : Int) (H : Heap) (hw : H.wf) :
    EvF Tryd.prog ok 104 [.float .f64 n.toNat, .int .i64 0] H fun v H' => v = .bool (fiB n) ∧ HX H H' := by
  refine EvF.enter (hk _ _ _ (.inl rfl)) Tryd.func104 hm rfl ?_
  (repeat refine EvC.seq ?_); refine EvC.reg ?_; simp (config := { maxSteps := 2000000 }) (disch := omega) only [initTm, EL_cons, EL_nil, LX_val, dop_assign, ev_const, put_some, Nat.zero_add, thenC_normal]
  (repeat refine EvC.seq ?_); refine EvC.reg ?_; simp (config := { maxSteps := 2000000 }) (disch := omega) only [EL_cons, EL_nil, LX_val, dop_move, dop_bin, ev_const, ev_tmp, Tr.get_put, put_some, Nat.reduceEqDiff, Option.getD_some, reduceCtorEq, if_true, if_false, thenC_normal, dBin_eql]
  (repeat refine EvC.seq ?_); refine EvC.condT (by simp only [ev_tmp, Tr.get_put, Nat.reduceEqDiff, Option.getD_some, reduceCtorEq, if_true, if_false]; rfl) ?_
  (repeat refine EvC.seq ?_); refine EvC.reg ?_; simp (config := { maxSteps := 2000000 }) (disch := omega) only [EL_cons, EL_nil, LX_val, LX_call, dop_assign, dop_move, ev_tmp, Tr.get_put, put_some, Nat.reduceEqDiff, Option.getD_some, reduceCtorEq, if_true, if_false, List.map_cons, List.map_nil, thenC_normal, dop_call call126]
  refine (abs_ev (hk 126 · · (.inr rfl)) hm2 n.toNat H hw).mono ?_
  rintro v H2 ⟨rfl, hx⟩
  try simp (config := { maxSteps := 2000000 }) (disch := omega) only []
  (repeat refine EvC.seq ?_); refine EvC.reg ?_; simp (config := { maxSteps := 2000000 }) (disch := omega) only [EL_cons, EL_nil, LX_val, dop_assign, dop_move, dop_bin, ev_const, ev_tmp, Tr.get_put, put_some, Nat.reduceEqDiff, Option.getD_some, reduceCtorEq, if_true, if_false, thenC_normal, dBin_gtrF]
  refine EvC.ret ?_
  exact leave_one rfl (by simp only [Tr.get_put, Nat.reduceEqDiff, reduceCtorEq, if_true, if_false]; rfl) ⟨rfl, hx⟩

def flB (n : Int) : Bool := !(iAnd .u64 (n.fdiv (2 ^ (min (Int.toNat 52) IntKind.u64.bits))) 2047 == 2047) && !(n == 9223372036854775808)
theorem floats_ev (hk : ∀ args H, ok.K 107 args H = none) (hm : ok.testBit 107 = true) : TellsU ok 107 flB := by
  intro n H hn hw
  refine EvF.enter (hk _ _) Tryd.func107 hm rfl ?_
  (repeat refine EvC.seq ?_); refine EvC.reg ?_; simp (config := { maxSteps := 2000000 }) (disch := omega) only [initTm, EL_cons, EL_nil, LX_val, dop_assign, ev_const, put_some, thenC_normal]
  cases h1 : (iAnd .u64 (n.fdiv (2 ^ (min (Int.toNat 52) IntKind.u64.bits))) 2047 == 2047) with
  | true =>
    (repeat refine EvC.seq ?_); refine EvC.reg ?_; simp (config := { maxSteps := 2000000 }) (disch := omega) only [EL_cons, EL_nil, EL_guard, LX_val, LG_tf, dop_assign, dop_move, dop_pick, dPick_bool, dop_bin, ev_const, ev_tmp, Tr.get_put, put_some, Nat.reduceEqDiff, Option.getD_some, reduceCtorEq, if_true, if_false, thenC_normal, guardOf_eq, guardGet_some, List.getElem?_cons_succ, List.getElem?_cons_zero, dBin_neq, dBin_shr, dBin_and, bne, h1, Bool.not_true, Bool.false_eq_true]
    refine EvC.ret ?_
    exact leave_one rfl (by simp only [Tr.get_put, Nat.reduceEqDiff, reduceCtorEq, if_true, if_false]; rfl) ⟨by unfold flB; rw [h1]; rfl, HX.refl hw⟩
  | false =>
    (repeat refine EvC.seq ?_); refine EvC.reg ?_; simp (config := { maxSteps := 2000000 }) (disch := omega) only [EL_cons, EL_nil, EL_guard, LX_val, LG_tt, dop_assign, dop_move, dop_pick, dPick_bool, dop_bin, ev_const, ev_tmp, Tr.get_put, put_some, Nat.reduceEqDiff, Option.getD_some, reduceCtorEq, if_true, if_false, thenC_normal, guardOf_eq, guardGet_some, List.getElem?_cons_succ, List.getElem?_cons_zero, dBin_neq, dBin_shr, dBin_and, bne, h1, Bool.not_false]
    refine EvC.ret ?_
    exact leave_one rfl (by simp only [Tr.get_put, Nat.reduceEqDiff, reduceCtorEq, if_true, if_false]; rfl) ⟨by unfold flB; rw [h1]; rfl, HX.refl hw⟩
end Go.Proofs.YtlllbkjiadcloaaDoor.hb
end

-- W9
section
/- Floats, the plain law: the program's tests and the reference's are one. -/
namespace Go.Proofs.YtlllbkjiadcloaaDoor.hb
open Go Go.RowKit Go.Hb

theorem wrap_u64_nat (q : Nat) (h : q < 18446744073709551616) : IntKind.u64.wrap (q : Int) = (q : Int) := by
  rw [IntKind.wrap_u64]; omega
theorem iAnd_low (q : Nat) (h : q < 18446744073709551616) : iAnd .u64 (q : Int) 2047 = ((q % 2048 : Nat) : Int) := by
  unfold iAnd
  have e : (BitVec.ofInt IntKind.u64.bits (q : Int) &&& BitVec.ofInt IntKind.u64.bits 2047).toNat = q % 2048 := by
    rw [BitVec.toNat_and]
    have h1 : (BitVec.ofInt IntKind.u64.bits (q : Int)).toNat = q := by
      rw [BitVec.ofInt_natCast, BitVec.toNat_ofNat]
      exact Nat.mod_eq_of_lt h
    have h2 : (BitVec.ofInt IntKind.u64.bits 2047).toNat = 2047 := rfl
    rw [h1, h2]
    exact Nat.and_two_pow_sub_one_eq_mod q 11
  rw [e, wrap_u64_nat _ (by omega)]
theorem absN_eq (m : Nat) (h : m < 18446744073709551616) : absN m = m % 9223372036854775808 := by
  unfold absN iAndNot
  have e : (BitVec.ofInt IntKind.u64.bits (m : Int) &&& ~~~BitVec.ofInt IntKind.u64.bits 9223372036854775808).toNat = m % 9223372036854775808 := by
    rw [BitVec.toNat_and]
    have h1 : (BitVec.ofInt IntKind.u64.bits (m : Int)).toNat = m := by
      rw [BitVec.ofInt_natCast, BitVec.toNat_ofNat]
      exact Nat.mod_eq_of_lt h
    have h2 : (~~~BitVec.ofInt IntKind.u64.bits 9223372036854775808).toNat = 9223372036854775807 := rfl
    rw [h1, h2]
    exact Nat.and_two_pow_sub_one_eq_mod m 63
  rw [e, wrap_u64_nat _ (by omega)]
  exact Int.toNat_natCast _

theorem read_eq (w : Nat) : Ieee.double.read w =
    if w % 9223372036854775808 < 4503599627370496 then .number (w / 9223372036854775808 % 2 == 1) (w % 9223372036854775808) (-1074)
    else if w % 9223372036854775808 < 9218868437227405312 then .number (w / 9223372036854775808 % 2 == 1) (4503599627370496 + w % 9223372036854775808 % 4503599627370496) (-1074 + ((w % 9223372036854775808 / 4503599627370496 - 1 : Nat) : Int))
    else if w % 9223372036854775808 = 9218868437227405312 then .infinity (w / 9223372036854775808 % 2 == 1)
    else .nan (w / 9223372036854775808 % 2 == 1) (w % 9223372036854775808 - 9218868437227405312) := rfl

theorem fnB_eq (m : Nat) : (FloatKind.f64.format.order m m != some .eq) = decide (9218868437227405312 < m % 9223372036854775808) := by
  show (Ieee.Datum.order (Ieee.double.read m) (Ieee.double.read m) != some .eq) = _
  rw [read_eq]
  split
  · rename_i h
    rw [decide_eq_false (by omega)]
    simp [Ieee.Datum.order]
  · split
    · rename_i h
      rw [decide_eq_false (by omega)]
      simp [Ieee.Datum.order]
    · split
      · rename_i h
        rw [decide_eq_false (by omega)]
        simp [Ieee.Datum.order]
      · rw [decide_eq_true (by omega)]
        simp [Ieee.Datum.order]

theorem shl_ge (m k : Nat) : m ≤ m <<< k := by
  rw [Nat.shiftLeft_eq]
  exact Nat.le_mul_of_pos_right m (Nat.two_pow_pos k)

theorem fiB_eq (g : Nat) (hg : g < 9223372036854775808) : (FloatKind.f64.format.order g 9218868437227405311 == some .gt) = decide (g = 9218868437227405312) := by
  show (Ieee.Datum.order (Ieee.double.read g) (Ieee.double.read 9218868437227405311) == some .gt) = _
  have hM : Ieee.double.read 9218868437227405311 = .number false 9007199254740991 971 := by rw [read_eq]; rfl
  have hmod : g % 9223372036854775808 = g := Nat.mod_eq_of_lt hg
  have hneg : (g / 9223372036854775808 % 2 == 1) = false := by
    rw [Nat.div_eq_of_lt hg]; rfl
  have key : ∀ (m : Nat) (p : Int), m ≤ 9007199254740991 → p ≤ 971 → (Ieee.Datum.order (.number false m p) (.number false 9007199254740991 971) == some .gt) = false := by
    intro m p hm hp
    simp only [Ieee.Datum.order, Ieee.signed]
    have h1 : min p 971 = p := by omega
    rw [h1]
    have h2 : (p - p).toNat = 0 := by omega
    rw [h2]
    have hle := shl_ge 9007199254740991 (971 - p).toNat
    have hng : compare ((m <<< 0 : Nat) : Int) ((9007199254740991 <<< (971 - p).toNat : Nat) : Int) ≠ .gt := by
      rw [Ne, Int.compare_eq_gt]
      have : m <<< 0 = m := rfl
      rw [this]
      omega
    simpa using hng
  rw [read_eq, hM, hmod, hneg]
  split
  · rename_i h
    rw [decide_eq_false (by omega)]
    exact key _ _ (by omega) (by omega)
  · split
    · rename_i h
      rw [decide_eq_false (by omega)]
      exact key _ _ (by omega) (by omega)
    · split
      · rename_i h
        rw [decide_eq_true h]
        rfl
      · rename_i h
        rw [decide_eq_false h]
        rfl

theorem floats_same (n : Int) (hn : u64 n) : flB n = !(fnB n || fiB n || n == 9223372036854775808) := by
  obtain ⟨m, rfl⟩ : ∃ m : Nat, n = m := ⟨n.toNat, by unfold u64 at hn; omega⟩
  have hm : m < 18446744073709551616 := by unfold u64 at hn; omega
  unfold flB fnB fiB
  have hd : (m : Int).fdiv (2 ^ (min (Int.toNat 52) IntKind.u64.bits)) = ((m / 4503599627370496 : Nat) : Int) := by
    show (m : Int).fdiv 4503599627370496 = _
    rw [Int.fdiv_eq_ediv_of_nonneg _ (by omega)]; rfl
  rw [hd, iAnd_low _ (by omega), Int.toNat_natCast, fnB_eq, absN_eq m hm, fiB_eq _ (Nat.mod_lt _ (by omega))]
  have hc : ((((m / 4503599627370496 % 2048 : Nat) : Int) == 2047)) = (decide (9218868437227405312 < m % 9223372036854775808) || decide (m % 9223372036854775808 = 9218868437227405312)) := by
    rw [Bool.eq_iff_iff]
    simp only [beq_iff_eq, Bool.or_eq_true, decide_eq_true_eq]
    omega
  rw [hc]
  cases decide (9218868437227405312 < m % 9223372036854775808) <;> cases decide (m % 9223372036854775808 = 9218868437227405312) <;> cases ((m : Int) == 9223372036854775808) <;> rfl
end Go.Proofs.YtlllbkjiadcloaaDoor.hb
end

-- X1
section
/- Texts: the rules are Sop3's. -/
namespace Go.Proofs.YtlllbkjiadcloaaDoor.hb
end Go.Proofs.YtlllbkjiadcloaaDoor.hb
end

-- X2
section
/- UTF-8, plainly: the reference's way of telling, and the library's. -/
namespace Go.Hb
open Go.Lib

def contR : Nat → List UInt8 → Nat → Option Nat
  | 0, _, c => some c
  | _ + 1, [], _ => none
  | n + 1, b :: l, c => if b.toNat < 128 ∨ 192 ≤ b.toNat then none else contR n l (c * 64 + b.toNat - 128)
def leadR (b : Nat) : Option (Nat × Nat × Nat) :=
  if 192 ≤ b ∧ b < 224 then some (1, 128, b - 192) else if 224 ≤ b ∧ b < 240 then some (2, 2048, b - 224) else if 240 ≤ b ∧ b < 248 then some (3, 65536, b - 240) else none
abbrev badR (lo c : Nat) : Prop := c < lo ∨ 1114111 < c ∨ (55296 ≤ c ∧ c < 57344)
def stepR (l : List UInt8) : Option Nat :=
  match l with
  | [] => none
  | b :: l => match leadR b.toNat with
    | none => none
    | some (n, lo, c) => match contR n l c with
      | none => none
      | some c => if badR lo c then none else some (n + 1)
def utfR : Nat → List UInt8 → Bool
  | 0, _ => true
  | _ + 1, [] => true
  | k + 1, b :: l => if b.toNat < 128 then utfR k l else match stepR (b :: l) with
    | none => false
    | some n => utfR k ((b :: l).drop n)


/-- the step, over numbers: n bytes are there -/
def stepN (n m b1 b2 b3 : Nat) : Option Nat :=
  if 192 ≤ m ∧ m < 224 then (if n < 2 ∨ b1 < 128 ∨ 192 ≤ b1 then none else if badR 128 ((m - 192) * 64 + b1 - 128) then none else some 2)
  else if 224 ≤ m ∧ m < 240 then (if n < 3 ∨ b1 < 128 ∨ 192 ≤ b1 ∨ b2 < 128 ∨ 192 ≤ b2 then none else if badR 2048 (((m - 224) * 64 + b1 - 128) * 64 + b2 - 128) then none else some 3)
  else if 240 ≤ m ∧ m < 248 then (if n < 4 ∨ b1 < 128 ∨ 192 ≤ b1 ∨ b2 < 128 ∨ 192 ≤ b2 ∨ b3 < 128 ∨ 192 ≤ b3 then none else if badR 65536 ((((m - 240) * 64 + b1 - 128) * 64 + b2 - 128) * 64 + b3 - 128) then none else some 4)
  else none
theorem cont1 (l : List UInt8) (c : Nat) : contR 1 l c = if l.length + 1 < 2 ∨ (l.getD 0 0).toNat < 128 ∨ 192 ≤ (l.getD 0 0).toNat then none else some (c * 64 + (l.getD 0 0).toNat - 128) := by
  cases l with
  | nil => simp [contR]
  | cons b l =>
    simp only [contR, List.length_cons, List.getD_cons_zero]
    repeat' split
    all_goals first | rfl | (exfalso; omega)
theorem cont2 (l : List UInt8) (c : Nat) : contR 2 l c = if l.length + 1 < 3 ∨ (l.getD 0 0).toNat < 128 ∨ 192 ≤ (l.getD 0 0).toNat ∨ (l.getD 1 0).toNat < 128 ∨ 192 ≤ (l.getD 1 0).toNat then none else some ((c * 64 + (l.getD 0 0).toNat - 128) * 64 + (l.getD 1 0).toNat - 128) := by
  match l with
  | [] => simp [contR]
  | [b] => simp [contR]
  | a :: b :: l =>
    simp only [contR, List.length_cons, List.getD_cons_zero, List.getD_cons_succ]
    repeat' split
    all_goals first | rfl | (exfalso; omega)
theorem cont3 (l : List UInt8) (c : Nat) : contR 3 l c = if l.length + 1 < 4 ∨ (l.getD 0 0).toNat < 128 ∨ 192 ≤ (l.getD 0 0).toNat ∨ (l.getD 1 0).toNat < 128 ∨ 192 ≤ (l.getD 1 0).toNat ∨ (l.getD 2 0).toNat < 128 ∨ 192 ≤ (l.getD 2 0).toNat then none
    else some (((c * 64 + (l.getD 0 0).toNat - 128) * 64 + (l.getD 1 0).toNat - 128) * 64 + (l.getD 2 0).toNat - 128) := by
  match l with
  | [] => simp [contR]
  | [b] => simp [contR]
  | [a, b] => simp [contR]
  | a :: b :: e :: l =>
    simp only [contR, List.length_cons, List.getD_cons_zero, List.getD_cons_succ]
    repeat' split
    all_goals first | rfl | (exfalso; omega)
theorem mif {C : Prop} [Decidable C] (x lo k : Nat) : (match (if C then (none : Option Nat) else some x) with | none => none | some c => if badR lo c then none else some k) = if C then none else if badR lo x then none else some k := by
  by_cases h : C <;> simp [h]
theorem stepR_N (b : UInt8) (l : List UInt8) : stepR (b :: l) = stepN (b :: l).length b.toNat ((b :: l).getD 1 0).toNat ((b :: l).getD 2 0).toNat ((b :: l).getD 3 0).toNat := by
  unfold stepR stepN leadR
  simp only [List.length_cons, List.getD_cons_succ]
  by_cases h1 : 192 ≤ b.toNat ∧ b.toNat < 224
  · simp only [if_pos h1]
    rw [cont1]; exact mif ..
  · simp only [if_neg h1]
    by_cases h2 : 224 ≤ b.toNat ∧ b.toNat < 240
    · simp only [if_pos h2]
      rw [cont2]; exact mif ..
    · simp only [if_neg h2]
      by_cases h3 : 240 ≤ b.toNat ∧ b.toNat < 248
      · simp only [if_pos h3]
        rw [cont3]; exact mif ..
      · simp only [if_neg h3]
theorem stepN_check (n m b1 b2 b3 : Nat) (h : ¬ m < 128) (hb : m < 256) (h1 : b1 < 256) (h2 : b2 < 256) (h3 : b3 < 256) :
    stepN n m b1 b2 b3 = checkN n b1 b2 b3 (firstT m % 8) (accLo (firstT m / 16)) (accHi (firstT m / 16)) := by
  have key : ∀ (f : Nat), firstT m = f → stepN n m b1 b2 b3 = checkN n b1 b2 b3 (f % 8) (accLo (f / 16)) (accHi (f / 16)) → 
      stepN n m b1 b2 b3 = checkN n b1 b2 b3 (firstT m % 8) (accLo (firstT m / 16)) (accHi (firstT m / 16)) := by
    rintro f rfl h; exact h
  by_cases c0 : m < 194
  · refine key 241 (by simp [firstT, h, c0]) ?_
    unfold stepN badR
    simp only [accLo, accHi, checkN, Nat.reduceMod, Nat.reduceDiv, Nat.reduceEqDiff, reduceIte]
    repeat' split
    all_goals first | (exfalso; omega) | rfl
  by_cases c1 : m < 224
  · refine key 2 (by simp [firstT, h, c0, c1]) ?_
    unfold stepN badR
    simp only [accLo, accHi, checkN, Nat.reduceMod, Nat.reduceDiv, Nat.reduceEqDiff, reduceIte]
    repeat' split
    all_goals first | (exfalso; omega) | rfl
  by_cases c2 : m = 224
  · subst c2
    refine key 19 (by decide) ?_
    unfold stepN badR
    simp only [accLo, accHi, checkN, Nat.reduceMod, Nat.reduceDiv, Nat.reduceEqDiff, reduceIte]
    repeat' split
    all_goals first | (exfalso; omega) | rfl
  by_cases c3 : m < 237
  · refine key 3 (by simp [firstT, h, c0, c1, c2, c3]) ?_
    unfold stepN badR
    simp only [accLo, accHi, checkN, Nat.reduceMod, Nat.reduceDiv, Nat.reduceEqDiff, reduceIte]
    repeat' split
    all_goals first | (exfalso; omega) | rfl
  by_cases c4 : m = 237
  · subst c4
    refine key 35 (by decide) ?_
    unfold stepN badR
    simp only [accLo, accHi, checkN, Nat.reduceMod, Nat.reduceDiv, Nat.reduceEqDiff, reduceIte]
    repeat' split
    all_goals first | (exfalso; omega) | rfl
  by_cases c5 : m < 240
  · refine key 3 (by simp [firstT, h, c0, c1, c2, c3, c4, c5]) ?_
    unfold stepN badR
    simp only [accLo, accHi, checkN, Nat.reduceMod, Nat.reduceDiv, Nat.reduceEqDiff, reduceIte]
    repeat' split
    all_goals first | (exfalso; omega) | rfl
  by_cases c6 : m = 240
  · subst c6
    refine key 52 (by decide) ?_
    unfold stepN badR
    simp only [accLo, accHi, checkN, Nat.reduceMod, Nat.reduceDiv, Nat.reduceEqDiff, reduceIte]
    repeat' split
    all_goals first | (exfalso; omega) | rfl
  by_cases c7 : m < 244
  · refine key 4 (by simp [firstT, h, c0, c1, c2, c3, c4, c5, c6, c7]) ?_
    unfold stepN badR
    simp only [accLo, accHi, checkN, Nat.reduceMod, Nat.reduceDiv, Nat.reduceEqDiff, reduceIte]
    repeat' split
    all_goals first | (exfalso; omega) | rfl
  by_cases c8 : m = 244
  · subst c8
    refine key 68 (by decide) ?_
    unfold stepN badR
    simp only [accLo, accHi, checkN, Nat.reduceMod, Nat.reduceDiv, Nat.reduceEqDiff, reduceIte]
    repeat' split
    all_goals first | (exfalso; omega) | rfl
  refine key 241 (by simp [firstT, h, c0, c1, c2, c3, c4, c5, c6, c7, c8]) ?_
  unfold stepN badR
  simp only [accLo, accHi, checkN, Nat.reduceMod, Nat.reduceDiv, Nat.reduceEqDiff, reduceIte]
  repeat' split
  all_goals first | (exfalso; omega) | rfl
theorem stepR_pos {l : List UInt8} {n : Nat} (h : stepR l = some n) : 1 ≤ n := by
  unfold stepR at h
  split at h
  · cases h
  · split at h
    · cases h
    · split at h
      · cases h
      · split at h
        · cases h
        · cases h; omega
theorem utfR_valid : ∀ (k : Nat) (l : List UInt8), l.length ≤ k → utfR k l = validD l
  | 0, [], _ => rfl
  | 0, _ :: _, h => by simp at h
  | k + 1, [], _ => rfl
  | k + 1, b :: l, h => by
    rw [utfR]
    split
    · rename_i hb
      rw [validD_cons b l hb]
      exact utfR_valid k l (by simpa using h)
    · rename_i hb
      rw [validD_lead (b :: l) (by simp) (by simpa using Nat.not_lt.1 hb), stepR_N, stepN_check _ _ _ _ _ hb b.toNat_lt (UInt8.toNat_lt _) (UInt8.toNat_lt _) (UInt8.toNat_lt _)]
      have he : stepR (b :: l) = _ := stepR_N b l
      rw [stepN_check _ _ _ _ _ hb b.toNat_lt (UInt8.toNat_lt _) (UInt8.toNat_lt _) (UInt8.toNat_lt _)] at he
      simp only [List.getD_cons_zero]
      cases hc : checkN (b :: l).length ((b :: l).getD 1 0).toNat ((b :: l).getD 2 0).toNat ((b :: l).getD 3 0).toNat (firstT b.toNat % 8) (accLo (firstT b.toNat / 16)) (accHi (firstT b.toNat / 16)) with
      | none => rfl
      | some n =>
        rw [hc] at he
        have hp := stepR_pos he
        refine utfR_valid k _ ?_
        rw [List.length_drop]
        simp at h ⊢
        omega
end Go.Hb
end

-- X3
section
/- UTF-8: the reference's function. -/
namespace Go.Proofs.YtlllbkjiadcloaaDoor.hb
open Go Go.RowKit Go.Hb

theorem toNat_at (s : ByteArray) (i : Nat) (h : i < s.size) : s.data.toList.drop i = (s[i]'h) :: s.data.toList.drop (i + 1) := by
  have h' : i < s.data.toList.length := by simpa using h
  rw [List.drop_eq_getElem_cons h']
  rfl
theorem len_bytes (s : ByteArray) : s.data.toList.length = s.size := by simp

theorem lead_le {m n lo c : Nat} (h : leadR m = some (n, lo, c)) : 1 ≤ n ∧ n ≤ 3 ∧ c < 32 ∧ lo ≤ 65536 := by
  unfold leadR at h
  split at h
  · cases h; omega
  · split at h
    · cases h; omega
    · split at h
      · cases h; omega
      · cases h

variable {ok : Ok}
set_option maxRecDepth 10000
set_option maxHeartbeats 4000000 in
theorem utf_ref_ev (hk : ∀ args H, ok.K 105 args H = none) (hm : ok.testBit 105 = true) : TellsS ok 105 fun s => utfR s.size s.data.toList := by
  intro s H hs hw
  have hs' : s.size ≤ 9223372036854775807 := hs
  refine EvF.enter (hk _ _) Tryd.func105 hm rfl ?_
  (repeat refine EvC.seq ?_); refine EvC.reg ?_; simp (config := { maxSteps := 2000000 }) (disch := omega) only [initTm, EL_cons, EL_nil, LX_val, dop_assign, ev_const, put_some, thenC_normal]
  (repeat refine EvC.seq ?_); refine EvC.reg ?_; simp (config := { maxSteps := 2000000 }) (disch := omega) only [EL_cons, EL_nil, LX_val, dop_assign, ev_const, put_some, thenC_normal]
  (repeat refine EvC.seq ?_)
  refine EvC.block (EvC.loop (fun k st => ∃ tm i, st = ⟨tm, [], H⟩ ∧ k = s.size - i ∧ i ≤ s.size ∧ utfR (s.size - i) (s.data.toList.drop i) = utfR s.size s.data.toList ∧ tm.get 0 = some (.string s) ∧ tm.get 3 = some (.int .i64 (i : Nat))) ?_ s.size _ ?_)
  · rintro k st ⟨tm, i, rfl, hk', hi, hc, g0, g3⟩
    (repeat refine EvC.seq ?_); refine EvC.reg ?_; simp (config := { maxSteps := 2000000 }) (disch := omega) only [EL_cons, EL_nil, LX_val, dop_move, dop_bin, dBin_lss, ev_tmp, Tr.get_put, put_some, Nat.reduceEqDiff, Option.getD_some, reduceCtorEq, if_true, if_false, thenC_normal, dop_len, g0, g3, dLn_string Tryd.underlying9]
    by_cases hlt : i < s.size
    · refine EvC.condT (by simp only [ev_tmp, Tr.get_put, Nat.reduceEqDiff, Option.getD_some, if_true, if_false]; exact congrArg _ (decide_eq_true (by omega))) (EvC.skip ?_)
      try simp (config := { maxSteps := 2000000 }) (disch := omega) only [thenC_normal]
      refine EvC.block ?_
      have hat := toNat_at s i hlt
      have hbt := (s[i]'hlt).toNat_lt
      obtain ⟨m, hm'⟩ : ∃ m, m = (s[i]'hlt).toNat := ⟨_, rfl⟩
      rw [← hm'] at hbt
      have hmB : byteAt s i = m := by rw [byteAt_get s i hlt, hm']
      have hf : s.size - i = (s.size - (i + 1)) + 1 := by omega
      rw [hf, hat, utfR, ← hm'] at hc
      (repeat refine EvC.seq ?_); refine EvC.reg ?_; simp (config := { maxSteps := 2000000 }) (disch := omega) only [EL_cons, EL_nil, LX_val, dop_assign, dop_move, ev_tmp, Tr.get_put, put_some, Nat.reduceEqDiff, Option.getD_some, reduceCtorEq, if_true, if_false, thenC_normal, g0, g3, dop_index, dIdx_byte Tryd.underlying9 hlt, hmB]
      (repeat refine EvC.seq ?_); refine EvC.reg ?_; simp (config := { maxSteps := 2000000 }) (disch := omega) only [EL_cons, EL_nil, LX_val, dop_assign, ev_const, put_some, thenC_normal]
      (repeat refine EvC.seq ?_); refine EvC.reg ?_; simp (config := { maxSteps := 2000000 }) (disch := omega) only [EL_cons, EL_nil, LX_val, dop_assign, ev_const, put_some, thenC_normal]
      (repeat refine EvC.seq ?_); refine EvC.reg ?_; simp (config := { maxSteps := 2000000 }) (disch := omega) only [EL_cons, EL_nil, LX_val, dop_assign, ev_const, put_some, thenC_normal]
      (repeat refine EvC.seq ?_); refine EvC.reg ?_; simp (config := { maxSteps := 2000000 }) (disch := omega) only [EL_cons, EL_nil, LX_val, dop_move, dop_bin, dBin_lss, ev_const, ev_tmp, Tr.get_put, put_some, Nat.reduceEqDiff, Option.getD_some, if_true, if_false, thenC_normal]
      refine EvC.frame (fun tm => tm.get 0 = some (.string s) ∧ tm.get 3 = some (.int .i64 (i : Nat)) ∧ tm.get 4 = some (.int .u8 (m : Nat)) ∧ tm.get 17 = some (.bool (decide ((m : Int) < 128)))) ⟨by simp only [Tr.get_put, reduceCtorEq, if_false]; exact g0, by simp only [Tr.get_put, Nat.reduceEqDiff, if_false]; exact g3, by simp only [Tr.get_put, Nat.reduceEqDiff, if_true, if_false], by simp only [Tr.get_put, Nat.reduceEqDiff, if_true, if_false]⟩ ?_
      clear g0 g3 tm
      rintro tm ⟨g0, g3, g4, g17⟩
      (repeat refine EvC.seq ?_)
      by_cases hasc : m < 128
      · refine EvC.condT (by simp only [ev_tmp, Option.getD_some, g17, decide_eq_true (show (m : Int) < 128 by omega)]) ?_
        (repeat refine EvC.seq ?_); refine EvC.reg ?_; simp (config := { maxSteps := 2000000 }) (disch := omega) only [EL_cons, EL_nil, LX_val, dop_assign, dop_move, dop_bin, dBin_add, ev_const, ev_tmp, Tr.get_put, put_some, Nat.reduceEqDiff, Option.getD_some, if_true, if_false, thenC_normal, g3, wrap_i64]
        refine EvC.exit ?_
        try simp (config := { maxSteps := 2000000 }) (disch := omega) only [reduceCtorEq, if_true, if_false, thenC_normal, inBlock_exit, thenC_exit]
        refine ⟨s.size - (i + 1), by omega, _, i + 1, rfl, rfl, by omega, by rw [← hc, if_pos hasc], by simp only [Tr.get_put, reduceCtorEq, if_false]; exact g0, by simp only [Tr.get_put, Nat.reduceEqDiff, if_true, if_false]; rfl⟩
      rw [if_neg hasc] at hc
      refine EvC.condF (by simp only [ev_tmp, Option.getD_some, g17, decide_eq_false (show ¬ (m : Int) < 128 by omega)]) ?_
      refine EvC.join (fun st => ∃ n lo c tm, leadR m = some (n, lo, c) ∧ st = ⟨tm, [], H⟩ ∧ tm.get 0 = some (.string s) ∧ tm.get 3 = some (.int .i64 (i : Nat)) ∧ tm.get 5 = some (.int .i64 (n : Nat)) ∧ tm.get 6 = some (.int .i64 (lo : Nat)) ∧ tm.get 7 = some (.int .i64 (c : Nat))) ?_ ?_
      · have hcs : m < 192 ∨ (192 ≤ m ∧ m < 224) ∨ (224 ≤ m ∧ m < 240) ∨ (240 ≤ m ∧ m < 248) ∨ 248 ≤ m := by omega
        rcases hcs with h | ⟨h, h'⟩ | ⟨h, h'⟩ | ⟨h, h'⟩ | h
        · have q1 : decide ((m : Int) ≥ 192) = false := decide_eq_false (by omega)
          have q3 : decide ((m : Int) ≥ 224) = false := decide_eq_false (by omega)
          have q5 : decide ((m : Int) ≥ 240) = false := decide_eq_false (by omega)
          have hl : leadR m = none := by unfold leadR; rw [if_neg (by omega), if_neg (by omega), if_neg (by omega)]
          (repeat refine EvC.seq ?_); refine EvC.reg ?_; simp (config := { maxSteps := 2000000 }) (disch := omega) only [EL_cons, EL_nil, EL_guard, LX_val, LG_tf, dop_move, dop_pick, dPick_bool, dop_bin, ev_const, ev_tmp, Tr.get_put, put_some, Nat.reduceEqDiff, Option.getD_some, if_true, if_false, thenC_normal, guardOf_eq, guardGet_some, List.getElem?_cons_succ, List.getElem?_cons_zero, dBin_geq, g4, q1, Bool.false_eq_true]
          (repeat refine EvC.seq ?_); refine EvC.condF (by simp only [ev_tmp, Tr.get_put, Nat.reduceEqDiff, Option.getD_some, if_true, if_false]) ?_
          (repeat refine EvC.seq ?_); refine EvC.reg ?_; simp (config := { maxSteps := 2000000 }) (disch := omega) only [EL_cons, EL_nil, EL_guard, LX_val, LG_tf, dop_move, dop_pick, dPick_bool, dop_bin, ev_const, ev_tmp, Tr.get_put, put_some, Nat.reduceEqDiff, Option.getD_some, if_true, if_false, thenC_normal, guardOf_eq, guardGet_some, List.getElem?_cons_succ, List.getElem?_cons_zero, dBin_geq, g4, q3, Bool.false_eq_true]
          (repeat refine EvC.seq ?_); refine EvC.condF (by simp only [ev_tmp, Tr.get_put, Nat.reduceEqDiff, Option.getD_some, if_true, if_false]) ?_
          (repeat refine EvC.seq ?_); refine EvC.reg ?_; simp (config := { maxSteps := 2000000 }) (disch := omega) only [EL_cons, EL_nil, EL_guard, LX_val, LG_tf, dop_move, dop_pick, dPick_bool, dop_bin, ev_const, ev_tmp, Tr.get_put, put_some, Nat.reduceEqDiff, Option.getD_some, if_true, if_false, thenC_normal, guardOf_eq, guardGet_some, List.getElem?_cons_succ, List.getElem?_cons_zero, dBin_geq, g4, q5, Bool.false_eq_true]
          (repeat refine EvC.seq ?_); refine EvC.condF (by simp only [ev_tmp, Tr.get_put, Nat.reduceEqDiff, Option.getD_some, if_true, if_false]) ?_
          (repeat refine EvC.seq ?_); refine EvC.reg ?_; simp (config := { maxSteps := 2000000 }) (disch := omega) only [EL_cons, EL_nil, LX_val, dop_assign, ev_const, put_some, thenC_normal]
          refine EvC.ret ?_
          try simp (config := { maxSteps := 2000000 }) (disch := omega) only [thenC_ret, inBlock_ret]
          exact leave_one rfl (by simp only [Tr.get_put, Nat.reduceEqDiff, if_true, if_false]; rfl) ⟨by rw [← hc]; simp only [stepR, ← hm', hl], HX.refl hw⟩
        · have q1 : decide ((m : Int) ≥ 192) = true := decide_eq_true (by omega)
          have q2 : decide ((m : Int) < 224) = true := decide_eq_true (by omega)
          have hl : leadR m = some (1, 128, m - 192) := by unfold leadR; rw [if_pos (by omega)]
          (repeat refine EvC.seq ?_); refine EvC.reg ?_; simp (config := { maxSteps := 2000000 }) (disch := omega) only [EL_cons, EL_nil, EL_guard, LX_val, LG_tt, dop_move, dop_pick, dPick_bool, dop_bin, dBin_lss, ev_const, ev_tmp, Tr.get_put, put_some, Nat.reduceEqDiff, Option.getD_some, if_true, if_false, thenC_normal, guardOf_eq, guardGet_some, List.getElem?_cons_succ, List.getElem?_cons_zero, dBin_geq, g4, q1, q2]
          (repeat refine EvC.seq ?_); refine EvC.condT (by simp only [ev_tmp, Tr.get_put, Nat.reduceEqDiff, Option.getD_some, if_true, if_false]) ?_
          (repeat refine EvC.seq ?_); refine EvC.reg ?_; simp (config := { maxSteps := 2000000 }) (disch := omega) only [EL_cons, EL_nil, LX_val, dop_assign, ev_const, put_some, thenC_normal]
          (repeat refine EvC.seq ?_); refine EvC.reg ?_; simp (config := { maxSteps := 2000000 }) (disch := omega) only [EL_cons, EL_nil, LX_val, dop_assign, ev_const, put_some, thenC_normal]
          (repeat refine EvC.seq ?_); refine EvC.reg ?_; simp (config := { maxSteps := 2000000 }) (disch := omega) only [EL_cons, EL_nil, LX_val, dop_assign, dop_move, dop_bin, ev_const, ev_tmp, Tr.get_put, put_some, Nat.reduceEqDiff, Option.getD_some, if_true, if_false, thenC_normal, dBin_sub, g4, dop_convert, dCon_int Tryd.underlying5 Tryd.underlying3, wrap_i64]
          exact ⟨1, 128, m - 192, _, hl, rfl, by simp only [Tr.get_put, reduceCtorEq, if_false]; exact g0, by simp only [Tr.get_put, Nat.reduceEqDiff, if_false]; exact g3, by simp only [Tr.get_put, Nat.reduceEqDiff, if_true, if_false]; rfl, by simp only [Tr.get_put, Nat.reduceEqDiff, if_true, if_false]; rfl, by simp only [Tr.get_put, Nat.reduceEqDiff, if_true, if_false]; exact congrArg (fun z => some (Value.int .i64 z)) (by omega)⟩
        · have q1 : decide ((m : Int) ≥ 192) = true := decide_eq_true (by omega)
          have q2 : decide ((m : Int) < 224) = false := decide_eq_false (by omega)
          have q3 : decide ((m : Int) ≥ 224) = true := decide_eq_true (by omega)
          have q4 : decide ((m : Int) < 240) = true := decide_eq_true (by omega)
          have hl : leadR m = some (2, 2048, m - 224) := by unfold leadR; rw [if_neg (by omega), if_pos (by omega)]
          (repeat refine EvC.seq ?_); refine EvC.reg ?_; simp (config := { maxSteps := 2000000 }) (disch := omega) only [EL_cons, EL_nil, EL_guard, LX_val, LG_tt, dop_move, dop_pick, dPick_bool, dop_bin, dBin_lss, ev_const, ev_tmp, Tr.get_put, put_some, Nat.reduceEqDiff, Option.getD_some, if_true, if_false, thenC_normal, guardOf_eq, guardGet_some, List.getElem?_cons_succ, List.getElem?_cons_zero, dBin_geq, g4, q1, q2]
          (repeat refine EvC.seq ?_); refine EvC.condF (by simp only [ev_tmp, Tr.get_put, Nat.reduceEqDiff, Option.getD_some, if_true, if_false]) ?_
          (repeat refine EvC.seq ?_); refine EvC.reg ?_; simp (config := { maxSteps := 2000000 }) (disch := omega) only [EL_cons, EL_nil, EL_guard, LX_val, LG_tt, dop_move, dop_pick, dPick_bool, dop_bin, dBin_lss, ev_const, ev_tmp, Tr.get_put, put_some, Nat.reduceEqDiff, Option.getD_some, if_true, if_false, thenC_normal, guardOf_eq, guardGet_some, List.getElem?_cons_succ, List.getElem?_cons_zero, dBin_geq, g4, q3, q4]
          (repeat refine EvC.seq ?_); refine EvC.condT (by simp only [ev_tmp, Tr.get_put, Nat.reduceEqDiff, Option.getD_some, if_true, if_false]) ?_
          (repeat refine EvC.seq ?_); refine EvC.reg ?_; simp (config := { maxSteps := 2000000 }) (disch := omega) only [EL_cons, EL_nil, LX_val, dop_assign, ev_const, put_some, thenC_normal]
          (repeat refine EvC.seq ?_); refine EvC.reg ?_; simp (config := { maxSteps := 2000000 }) (disch := omega) only [EL_cons, EL_nil, LX_val, dop_assign, ev_const, put_some, thenC_normal]
          (repeat refine EvC.seq ?_); refine EvC.reg ?_; simp (config := { maxSteps := 2000000 }) (disch := omega) only [EL_cons, EL_nil, LX_val, dop_assign, dop_move, dop_bin, ev_const, ev_tmp, Tr.get_put, put_some, Nat.reduceEqDiff, Option.getD_some, if_true, if_false, thenC_normal, dBin_sub, g4, dop_convert, dCon_int Tryd.underlying5 Tryd.underlying3, wrap_i64]
          exact ⟨2, 2048, m - 224, _, hl, rfl, by simp only [Tr.get_put, reduceCtorEq, if_false]; exact g0, by simp only [Tr.get_put, Nat.reduceEqDiff, if_false]; exact g3, by simp only [Tr.get_put, Nat.reduceEqDiff, if_true, if_false]; rfl, by simp only [Tr.get_put, Nat.reduceEqDiff, if_true, if_false]; rfl, by simp only [Tr.get_put, Nat.reduceEqDiff, if_true, if_false]; exact congrArg (fun z => some (Value.int .i64 z)) (by omega)⟩
        · have q1 : decide ((m : Int) ≥ 192) = true := decide_eq_true (by omega)
          have q2 : decide ((m : Int) < 224) = false := decide_eq_false (by omega)
          have q3 : decide ((m : Int) ≥ 224) = true := decide_eq_true (by omega)
          have q4 : decide ((m : Int) < 240) = false := decide_eq_false (by omega)
          have q5 : decide ((m : Int) ≥ 240) = true := decide_eq_true (by omega)
          have q6 : decide ((m : Int) < 248) = true := decide_eq_true (by omega)
          have hl : leadR m = some (3, 65536, m - 240) := by unfold leadR; rw [if_neg (by omega), if_neg (by omega), if_pos (by omega)]
          (repeat refine EvC.seq ?_); refine EvC.reg ?_; simp (config := { maxSteps := 2000000 }) (disch := omega) only [EL_cons, EL_nil, EL_guard, LX_val, LG_tt, dop_move, dop_pick, dPick_bool, dop_bin, dBin_lss, ev_const, ev_tmp, Tr.get_put, put_some, Nat.reduceEqDiff, Option.getD_some, if_true, if_false, thenC_normal, guardOf_eq, guardGet_some, List.getElem?_cons_succ, List.getElem?_cons_zero, dBin_geq, g4, q1, q2]
          (repeat refine EvC.seq ?_); refine EvC.condF (by simp only [ev_tmp, Tr.get_put, Nat.reduceEqDiff, Option.getD_some, if_true, if_false]) ?_
          (repeat refine EvC.seq ?_); refine EvC.reg ?_; simp (config := { maxSteps := 2000000 }) (disch := omega) only [EL_cons, EL_nil, EL_guard, LX_val, LG_tt, dop_move, dop_pick, dPick_bool, dop_bin, dBin_lss, ev_const, ev_tmp, Tr.get_put, put_some, Nat.reduceEqDiff, Option.getD_some, if_true, if_false, thenC_normal, guardOf_eq, guardGet_some, List.getElem?_cons_succ, List.getElem?_cons_zero, dBin_geq, g4, q3, q4]
          (repeat refine EvC.seq ?_); refine EvC.condF (by simp only [ev_tmp, Tr.get_put, Nat.reduceEqDiff, Option.getD_some, if_true, if_false]) ?_
          (repeat refine EvC.seq ?_); refine EvC.reg ?_; simp (config := { maxSteps := 2000000 }) (disch := omega) only [EL_cons, EL_nil, EL_guard, LX_val, LG_tt, dop_move, dop_pick, dPick_bool, dop_bin, dBin_lss, ev_const, ev_tmp, Tr.get_put, put_some, Nat.reduceEqDiff, Option.getD_some, if_true, if_false, thenC_normal, guardOf_eq, guardGet_some, List.getElem?_cons_succ, List.getElem?_cons_zero, dBin_geq, g4, q5, q6]
          (repeat refine EvC.seq ?_); refine EvC.condT (by simp only [ev_tmp, Tr.get_put, Nat.reduceEqDiff, Option.getD_some, if_true, if_false]) ?_
          (repeat refine EvC.seq ?_); refine EvC.reg ?_; simp (config := { maxSteps := 2000000 }) (disch := omega) only [EL_cons, EL_nil, LX_val, dop_assign, ev_const, put_some, thenC_normal]
          (repeat refine EvC.seq ?_); refine EvC.reg ?_; simp (config := { maxSteps := 2000000 }) (disch := omega) only [EL_cons, EL_nil, LX_val, dop_assign, ev_const, put_some, thenC_normal]
          (repeat refine EvC.seq ?_); refine EvC.reg ?_; simp (config := { maxSteps := 2000000 }) (disch := omega) only [EL_cons, EL_nil, LX_val, dop_assign, dop_move, dop_bin, ev_const, ev_tmp, Tr.get_put, put_some, Nat.reduceEqDiff, Option.getD_some, if_true, if_false, thenC_normal, dBin_sub, g4, dop_convert, dCon_int Tryd.underlying5 Tryd.underlying3, wrap_i64]
          exact ⟨3, 65536, m - 240, _, hl, rfl, by simp only [Tr.get_put, reduceCtorEq, if_false]; exact g0, by simp only [Tr.get_put, Nat.reduceEqDiff, if_false]; exact g3, by simp only [Tr.get_put, Nat.reduceEqDiff, if_true, if_false]; rfl, by simp only [Tr.get_put, Nat.reduceEqDiff, if_true, if_false]; rfl, by simp only [Tr.get_put, Nat.reduceEqDiff, if_true, if_false]; exact congrArg (fun z => some (Value.int .i64 z)) (by omega)⟩
        · have q1 : decide ((m : Int) ≥ 192) = true := decide_eq_true (by omega)
          have q2 : decide ((m : Int) < 224) = false := decide_eq_false (by omega)
          have q3 : decide ((m : Int) ≥ 224) = true := decide_eq_true (by omega)
          have q4 : decide ((m : Int) < 240) = false := decide_eq_false (by omega)
          have q5 : decide ((m : Int) ≥ 240) = true := decide_eq_true (by omega)
          have q6 : decide ((m : Int) < 248) = false := decide_eq_false (by omega)
          have hl : leadR m = none := by unfold leadR; rw [if_neg (by omega), if_neg (by omega), if_neg (by omega)]
          (repeat refine EvC.seq ?_); refine EvC.reg ?_; simp (config := { maxSteps := 2000000 }) (disch := omega) only [EL_cons, EL_nil, EL_guard, LX_val, LG_tt, dop_move, dop_pick, dPick_bool, dop_bin, dBin_lss, ev_const, ev_tmp, Tr.get_put, put_some, Nat.reduceEqDiff, Option.getD_some, if_true, if_false, thenC_normal, guardOf_eq, guardGet_some, List.getElem?_cons_succ, List.getElem?_cons_zero, dBin_geq, g4, q1, q2]
          (repeat refine EvC.seq ?_); refine EvC.condF (by simp only [ev_tmp, Tr.get_put, Nat.reduceEqDiff, Option.getD_some, if_true, if_false]) ?_
          (repeat refine EvC.seq ?_); refine EvC.reg ?_; simp (config := { maxSteps := 2000000 }) (disch := omega) only [EL_cons, EL_nil, EL_guard, LX_val, LG_tt, dop_move, dop_pick, dPick_bool, dop_bin, dBin_lss, ev_const, ev_tmp, Tr.get_put, put_some, Nat.reduceEqDiff, Option.getD_some, if_true, if_false, thenC_normal, guardOf_eq, guardGet_some, List.getElem?_cons_succ, List.getElem?_cons_zero, dBin_geq, g4, q3, q4]
          (repeat refine EvC.seq ?_); refine EvC.condF (by simp only [ev_tmp, Tr.get_put, Nat.reduceEqDiff, Option.getD_some, if_true, if_false]) ?_
          (repeat refine EvC.seq ?_); refine EvC.reg ?_; simp (config := { maxSteps := 2000000 }) (disch := omega) only [EL_cons, EL_nil, EL_guard, LX_val, LG_tt, dop_move, dop_pick, dPick_bool, dop_bin, dBin_lss, ev_const, ev_tmp, Tr.get_put, put_some, Nat.reduceEqDiff, Option.getD_some, if_true, if_false, thenC_normal, guardOf_eq, guardGet_some, List.getElem?_cons_succ, List.getElem?_cons_zero, dBin_geq, g4, q5, q6]
          (repeat refine EvC.seq ?_); refine EvC.condF (by simp only [ev_tmp, Tr.get_put, Nat.reduceEqDiff, Option.getD_some, if_true, if_false]) ?_
          (repeat refine EvC.seq ?_); refine EvC.reg ?_; simp (config := { maxSteps := 2000000 }) (disch := omega) only [EL_cons, EL_nil, LX_val, dop_assign, ev_const, put_some, thenC_normal]
          refine EvC.ret ?_
          try simp (config := { maxSteps := 2000000 }) (disch := omega) only [thenC_ret, inBlock_ret]
          exact leave_one rfl (by simp only [Tr.get_put, Nat.reduceEqDiff, if_true, if_false]; rfl) ⟨by rw [← hc]; simp only [stepR, ← hm', hl], HX.refl hw⟩
      rintro st ⟨n, lo, c, tm1, hlead, rfl, f0, f3, f5, f6, f7⟩
      clear g0 g3 g4 g17 tm
      try simp (config := { maxSteps := 2000000 }) (disch := omega) only [thenC_normal]
      have hle := lead_le hlead
      (repeat refine EvC.seq ?_); refine EvC.reg ?_; simp (config := { maxSteps := 2000000 }) (disch := omega) only [EL_cons, EL_nil, LX_val, dop_assign, ev_const, put_some, thenC_normal]
      (repeat refine EvC.seq ?_)
      refine EvC.join (fun st => ∃ c' tm, contR n (s.data.toList.drop (i + 1)) c = some c' ∧ c' < 8388608 ∧ i + 1 + n ≤ s.size ∧ st = ⟨tm, [], H⟩ ∧ tm.get 0 = some (.string s) ∧ tm.get 3 = some (.int .i64 (i : Nat)) ∧ tm.get 5 = some (.int .i64 (n : Nat)) ∧ tm.get 6 = some (.int .i64 (lo : Nat)) ∧ tm.get 7 = some (.int .i64 (c' : Nat))) ?_ ?_
      · refine EvC.block (EvC.loop (fun k st => ∃ tm j c', st = ⟨tm, [], H⟩ ∧ k = n - j ∧ j ≤ n ∧ ((j = 0 ∧ c' < 32) ∨ (j = 1 ∧ c' < 2048) ∨ (j = 2 ∧ c' < 131072) ∨ (j = 3 ∧ c' < 8388608)) ∧ i + 1 + j ≤ s.size ∧ contR (n - j) (s.data.toList.drop (i + 1 + j)) c' = contR n (s.data.toList.drop (i + 1)) c ∧ tm.get 0 = some (.string s) ∧ tm.get 3 = some (.int .i64 (i : Nat)) ∧ tm.get 5 = some (.int .i64 (n : Nat)) ∧ tm.get 6 = some (.int .i64 (lo : Nat)) ∧ tm.get 7 = some (.int .i64 (c' : Nat)) ∧ tm.get 8 = some (.int .i64 ((j + 1 : Nat) : Int))) ?_ n _ ?_)
        · rintro k st ⟨tm, j, c', rfl, hkj, hj, hcl, hij, hcc, e0, e3, e5, e6, e7, e8⟩
          have hcb : c' < 8388608 := by omega
          (repeat refine EvC.seq ?_); refine EvC.reg ?_; simp (config := { maxSteps := 2000000 }) (disch := omega) only [EL_cons, EL_nil, LX_val, dop_move, dop_bin, ev_tmp, Tr.get_put, put_some, Nat.reduceEqDiff, Option.getD_some, if_true, if_false, thenC_normal, dBin_leq, e5, e8]
          (repeat refine EvC.seq ?_)
          by_cases hjn : j + 1 ≤ n
          · refine EvC.condT (by simp only [ev_tmp, Tr.get_put, Nat.reduceEqDiff, Option.getD_some, if_true, if_false]; exact congrArg _ (decide_eq_true (by omega))) (EvC.skip ?_)
            try simp (config := { maxSteps := 2000000 }) (disch := omega) only [thenC_normal]
            refine EvC.seq ?_
            have hw1 : IntKind.i64.wrap ((i : Int) + ((j + 1 : Nat) : Int)) = ((i + 1 + j : Nat) : Int) := by rw [wrap_i64 (by omega) (by omega)]; omega
            have hnj : n - j = (n - (j + 1)) + 1 := by omega
            by_cases hend : i + 1 + j < s.size
            · have hat2 := toNat_at s (i + 1 + j) hend
              have hbt2 := (s[i + 1 + j]'hend).toNat_lt
              obtain ⟨b, hb'⟩ : ∃ b, b = (s[i + 1 + j]'hend).toNat := ⟨_, rfl⟩
              rw [← hb'] at hbt2
              have hbB : byteAt s (i + 1 + j) = b := by rw [byteAt_get s _ hend, hb']
              rw [hnj, hat2, contR, ← hb'] at hcc
              have q1 : decide (((i + 1 + j : Nat) : Int) ≥ (s.size : Int)) = false := decide_eq_false (by omega)
              refine EvC.block ?_
              by_cases hbad : b < 128 ∨ 192 ≤ b
              · rw [if_pos hbad] at hcc
                have hst : stepR (s[i] :: s.data.toList.drop (i + 1)) = none := by simp only [stepR, ← hm', hlead, ← hcc]
                have fin : utfR s.size s.data.toList = false := by rw [← hc, hst]
                by_cases h2 : b < 128
                · have q2 : decide ((b : Int) < 128) = true := decide_eq_true (by omega)
                  (repeat refine EvC.seq ?_); refine EvC.reg ?_; simp (config := { maxSteps := 2000000 }) (disch := omega) only [EL_cons, EL_nil, EL_guard, LX_val, LG_ff, LG_ft, dop_move, dop_pick, dPick_bool, dop_bin, dBin_add, dBin_lss, ev_const, ev_tmp, Tr.get_put, put_some, Nat.reduceEqDiff, Option.getD_some, reduceCtorEq, if_true, if_false, thenC_normal, guardOf_eq, guardGet_some, List.getElem?_cons_succ, List.getElem?_cons_zero, dBin_geq, dop_len, e0, e3, e8, hw1, q1, q2, dLn_string Tryd.underlying9, dop_index, dIdx_byte Tryd.underlying9 hend, hbB, Bool.false_eq_true]
                  (repeat refine EvC.seq ?_); refine EvC.condT (by simp only [ev_tmp, Tr.get_put, Nat.reduceEqDiff, Option.getD_some, if_true, if_false]) ?_
                  (repeat refine EvC.seq ?_); refine EvC.reg ?_; simp (config := { maxSteps := 2000000 }) (disch := omega) only [EL_cons, EL_nil, LX_val, dop_assign, ev_const, put_some, thenC_normal]
                  refine EvC.ret ?_
                  try simp (config := { maxSteps := 2000000 }) (disch := omega) only [thenC_ret, inBlock_ret]
                  exact leave_one rfl (by simp only [Tr.get_put, Nat.reduceEqDiff, if_true, if_false]; rfl) ⟨by rw [fin], HX.refl hw⟩
                · have q2 : decide ((b : Int) < 128) = false := decide_eq_false (by omega)
                  have q3 : decide ((b : Int) ≥ 192) = true := decide_eq_true (by omega)
                  (repeat refine EvC.seq ?_); refine EvC.reg ?_; simp (config := { maxSteps := 2000000 }) (disch := omega) only [EL_cons, EL_nil, EL_guard, LX_val, LG_ff, dop_move, dop_pick, dPick_bool, dop_bin, dBin_add, dBin_lss, ev_const, ev_tmp, Tr.get_put, put_some, Nat.reduceEqDiff, Option.getD_some, reduceCtorEq, if_true, if_false, thenC_normal, guardOf_eq, guardGet_some, List.getElem?_cons_succ, List.getElem?_cons_zero, dBin_geq, dop_len, e0, e3, e8, hw1, q1, q2, q3, dLn_string Tryd.underlying9, dop_index, dIdx_byte Tryd.underlying9 hend, hbB, Bool.false_eq_true]
                  (repeat refine EvC.seq ?_); refine EvC.condT (by simp only [ev_tmp, Tr.get_put, Nat.reduceEqDiff, Option.getD_some, if_true, if_false]) ?_
                  (repeat refine EvC.seq ?_); refine EvC.reg ?_; simp (config := { maxSteps := 2000000 }) (disch := omega) only [EL_cons, EL_nil, LX_val, dop_assign, ev_const, put_some, thenC_normal]
                  refine EvC.ret ?_
                  try simp (config := { maxSteps := 2000000 }) (disch := omega) only [thenC_ret, inBlock_ret]
                  exact leave_one rfl (by simp only [Tr.get_put, Nat.reduceEqDiff, if_true, if_false]; rfl) ⟨by rw [fin], HX.refl hw⟩
              · rw [if_neg hbad] at hcc
                have q2 : decide ((b : Int) < 128) = false := decide_eq_false (by omega)
                have q3 : decide ((b : Int) ≥ 192) = false := decide_eq_false (by omega)
                (repeat refine EvC.seq ?_); refine EvC.reg ?_; simp (config := { maxSteps := 2000000 }) (disch := omega) only [EL_cons, EL_nil, EL_guard, LX_val, LG_ff, dop_move, dop_pick, dPick_bool, dop_bin, dBin_add, dBin_lss, ev_const, ev_tmp, Tr.get_put, put_some, Nat.reduceEqDiff, Option.getD_some, reduceCtorEq, if_true, if_false, thenC_normal, guardOf_eq, guardGet_some, List.getElem?_cons_succ, List.getElem?_cons_zero, dBin_geq, dop_len, e0, e3, e8, hw1, q1, q2, q3, dLn_string Tryd.underlying9, dop_index, dIdx_byte Tryd.underlying9 hend, hbB, Bool.false_eq_true]
                (repeat refine EvC.seq ?_); refine EvC.condF (by simp only [ev_tmp, Tr.get_put, Nat.reduceEqDiff, Option.getD_some, if_true, if_false]) (EvC.skip ?_)
                try simp (config := { maxSteps := 2000000 }) (disch := omega) only [thenC_normal]
                (repeat refine EvC.seq ?_); refine EvC.reg ?_; simp (config := { maxSteps := 2000000 }) (disch := omega) only [EL_cons, EL_nil, LX_val, dop_assign, dop_move, dop_bin, dBin_add, ev_const, ev_tmp, Tr.get_put, put_some, Nat.reduceEqDiff, Option.getD_some, reduceCtorEq, if_true, if_false, thenC_normal, inBlock_normal, dBin_sub, dBin_mul, e0, e3, e7, e8, hw1, dop_index, dIdx_byte Tryd.underlying9 hend, hbB, dop_convert, dCon_int Tryd.underlying5 Tryd.underlying3, wrap_i64]
                (repeat refine EvC.seq ?_); refine EvC.reg ?_; simp (config := { maxSteps := 2000000 }) (disch := omega) only [EL_cons, EL_nil, LX_val, dop_assign, dop_move, dop_bin, dBin_add, ev_const, ev_tmp, Tr.get_put, put_some, Nat.reduceEqDiff, Option.getD_some, if_true, if_false, thenC_normal, e8, wrap_i64]
                exact ⟨n - (j + 1), by omega, _, j + 1, c' * 64 + b - 128, rfl, rfl, hjn, by omega, by omega, hcc, by simp only [Tr.get_put, reduceCtorEq, if_false]; exact e0, by simp only [Tr.get_put, Nat.reduceEqDiff, if_false]; exact e3, by simp only [Tr.get_put, Nat.reduceEqDiff, if_false]; exact e5, by simp only [Tr.get_put, Nat.reduceEqDiff, if_false]; exact e6, by simp only [Tr.get_put, Nat.reduceEqDiff, if_true, if_false]; exact congrArg (fun z => some (Value.int .i64 z)) (by omega), by simp only [Tr.get_put, Nat.reduceEqDiff, if_true, if_false]; rfl⟩
            · have q1 : decide (((i + 1 + j : Nat) : Int) ≥ (s.size : Int)) = true := decide_eq_true (by omega)
              have hnil : s.data.toList.drop (i + 1 + j) = [] := List.drop_of_length_le (by rw [len_bytes]; omega)
              rw [hnj, hnil, contR] at hcc
              have hst : stepR (s[i] :: s.data.toList.drop (i + 1)) = none := by simp only [stepR, ← hm', hlead, ← hcc]
              have fin : utfR s.size s.data.toList = false := by rw [← hc, hst]
              refine EvC.block ?_
              (repeat refine EvC.seq ?_); refine EvC.reg ?_; simp (config := { maxSteps := 2000000 }) (disch := omega) only [EL_cons, EL_nil, EL_guard, LX_val, LG_ft, dop_move, dop_pick, dPick_bool, dop_bin, dBin_add, ev_const, ev_tmp, Tr.get_put, put_some, Nat.reduceEqDiff, Option.getD_some, reduceCtorEq, if_true, if_false, thenC_normal, guardOf_eq, guardGet_some, List.getElem?_cons_succ, List.getElem?_cons_zero, dBin_geq, dop_len, e0, e3, e8, hw1, q1, dLn_string Tryd.underlying9]
              (repeat refine EvC.seq ?_); refine EvC.condT (by simp only [ev_tmp, Tr.get_put, Nat.reduceEqDiff, Option.getD_some, if_true, if_false]) ?_
              (repeat refine EvC.seq ?_); refine EvC.reg ?_; simp (config := { maxSteps := 2000000 }) (disch := omega) only [EL_cons, EL_nil, LX_val, dop_assign, ev_const, put_some, thenC_normal]
              refine EvC.ret ?_
              try simp (config := { maxSteps := 2000000 }) (disch := omega) only [thenC_ret, inBlock_ret]
              exact leave_one rfl (by simp only [Tr.get_put, Nat.reduceEqDiff, if_true, if_false]; rfl) ⟨by rw [fin], HX.refl hw⟩
          · refine EvC.condF (by simp only [ev_tmp, Tr.get_put, Nat.reduceEqDiff, Option.getD_some, if_true, if_false]; exact congrArg _ (decide_eq_false (by omega))) (EvC.exit ?_)
            try simp (config := { maxSteps := 2000000 }) (disch := omega) only [Nat.reduceEqDiff, reduceCtorEq, if_true, if_false, thenC_normal, inBlock_exit, thenC_exit]
            have hjn' : n - j = 0 := by omega
            have hjn2 : j = n := by omega
            rw [hjn', contR] at hcc
            exact ⟨c', _, hcc.symm, hcb, by omega, rfl, by simp only [Tr.get_put, reduceCtorEq, if_false]; exact e0, by simp only [Tr.get_put, Nat.reduceEqDiff, if_false]; exact e3, by simp only [Tr.get_put, Nat.reduceEqDiff, if_false]; exact e5, by simp only [Tr.get_put, Nat.reduceEqDiff, if_false]; exact e6, by simp only [Tr.get_put, Nat.reduceEqDiff, if_false]; exact e7⟩
        · exact ⟨_, 0, c, rfl, by omega, by omega, by omega, by omega, by simp only [Nat.sub_zero, Nat.add_zero], by simp only [Tr.get_put, reduceCtorEq, if_false]; exact f0, by simp only [Tr.get_put, Nat.reduceEqDiff, if_false]; exact f3, by simp only [Tr.get_put, Nat.reduceEqDiff, if_false]; exact f5, by simp only [Tr.get_put, Nat.reduceEqDiff, if_false]; exact f6, by simp only [Tr.get_put, Nat.reduceEqDiff, if_false]; exact f7, by simp only [Tr.get_put, Nat.zero_add, if_true]; rfl⟩
      rintro st ⟨c', tm, hcont, hcb, hin, rfl, e0, e3, e5, e6, e7⟩
      clear f0 f3 f5 f6 f7
      try simp (config := { maxSteps := 2000000 }) (disch := omega) only [thenC_normal]
      by_cases hbad : badR lo c'
      · have hst : stepR (s[i] :: s.data.toList.drop (i + 1)) = none := by simp only [stepR, ← hm', hlead, hcont, if_pos hbad]
        have fin : utfR s.size s.data.toList = false := by rw [← hc, hst]
        rcases hbad with h1 | h1
        · have q1 : decide ((c' : Int) < (lo : Int)) = true := decide_eq_true (by omega)
          (repeat refine EvC.seq ?_); refine EvC.reg ?_; simp (config := { maxSteps := 2000000 }) (disch := omega) only [EL_cons, EL_nil, EL_guard, LX_val, LG_ft, LG_undef, dop_move, dop_pick, dPick_bool, dop_bin, dBin_lss, ev_const, ev_tmp, Tr.get_put, put_some, Nat.reduceEqDiff, Option.getD_some, if_true, if_false, thenC_normal, guardOf_eq, guardGet_some, List.getElem?_cons_succ, List.getElem?_cons_zero, e6, e7, q1]
          (repeat refine EvC.seq ?_); refine EvC.condT (by simp only [ev_tmp, Tr.get_put, Nat.reduceEqDiff, Option.getD_some, if_true, if_false]) ?_
          (repeat refine EvC.seq ?_); refine EvC.reg ?_; simp (config := { maxSteps := 2000000 }) (disch := omega) only [EL_cons, EL_nil, LX_val, dop_assign, ev_const, put_some, thenC_normal]
          refine EvC.ret ?_
          try simp (config := { maxSteps := 2000000 }) (disch := omega) only [thenC_ret, inBlock_ret]
          exact leave_one rfl (by simp only [Tr.get_put, Nat.reduceEqDiff, if_true, if_false]; rfl) ⟨by rw [fin], HX.refl hw⟩
        · by_cases h0 : c' < lo
          · have q1 : decide ((c' : Int) < (lo : Int)) = true := decide_eq_true (by omega)
            (repeat refine EvC.seq ?_); refine EvC.reg ?_; simp (config := { maxSteps := 2000000 }) (disch := omega) only [EL_cons, EL_nil, EL_guard, LX_val, LG_ft, LG_undef, dop_move, dop_pick, dPick_bool, dop_bin, dBin_lss, ev_const, ev_tmp, Tr.get_put, put_some, Nat.reduceEqDiff, Option.getD_some, if_true, if_false, thenC_normal, guardOf_eq, guardGet_some, List.getElem?_cons_succ, List.getElem?_cons_zero, e6, e7, q1]
            (repeat refine EvC.seq ?_); refine EvC.condT (by simp only [ev_tmp, Tr.get_put, Nat.reduceEqDiff, Option.getD_some, if_true, if_false]) ?_
            (repeat refine EvC.seq ?_); refine EvC.reg ?_; simp (config := { maxSteps := 2000000 }) (disch := omega) only [EL_cons, EL_nil, LX_val, dop_assign, ev_const, put_some, thenC_normal]
            refine EvC.ret ?_
            try simp (config := { maxSteps := 2000000 }) (disch := omega) only [thenC_ret, inBlock_ret]
            exact leave_one rfl (by simp only [Tr.get_put, Nat.reduceEqDiff, if_true, if_false]; rfl) ⟨by rw [fin], HX.refl hw⟩
          have q1 : decide ((c' : Int) < (lo : Int)) = false := decide_eq_false (by omega)
          by_cases h2 : 1114111 < c'
          · have q2 : decide ((c' : Int) > 1114111) = true := decide_eq_true (by omega)
            (repeat refine EvC.seq ?_); refine EvC.reg ?_; simp (config := { maxSteps := 2000000 }) (disch := omega) only [EL_cons, EL_nil, EL_guard, LX_val, LG_ff, LG_ft, LG_undef, dop_move, dop_pick, dPick_bool, dop_bin, dBin_lss, dBin_gtr, ev_const, ev_tmp, Tr.get_put, put_some, Nat.reduceEqDiff, Option.getD_some, if_true, if_false, thenC_normal, guardOf_eq, guardGet_some, List.getElem?_cons_succ, List.getElem?_cons_zero, e6, e7, q1, q2, Bool.false_eq_true]
            (repeat refine EvC.seq ?_); refine EvC.condT (by simp only [ev_tmp, Tr.get_put, Nat.reduceEqDiff, Option.getD_some, if_true, if_false]) ?_
            (repeat refine EvC.seq ?_); refine EvC.reg ?_; simp (config := { maxSteps := 2000000 }) (disch := omega) only [EL_cons, EL_nil, LX_val, dop_assign, ev_const, put_some, thenC_normal]
            refine EvC.ret ?_
            try simp (config := { maxSteps := 2000000 }) (disch := omega) only [thenC_ret, inBlock_ret]
            exact leave_one rfl (by simp only [Tr.get_put, Nat.reduceEqDiff, if_true, if_false]; rfl) ⟨by rw [fin], HX.refl hw⟩
          · have q2 : decide ((c' : Int) > 1114111) = false := decide_eq_false (by omega)
            have q3 : decide ((c' : Int) ≥ 55296) = true := decide_eq_true (by omega)
            have q4 : decide ((c' : Int) < 57344) = true := decide_eq_true (by omega)
            (repeat refine EvC.seq ?_); refine EvC.reg ?_; simp (config := { maxSteps := 2000000 }) (disch := omega) only [EL_cons, EL_nil, EL_guard, LX_val, LG_tt, LG_ff, dop_move, dop_pick, dPick_bool, dop_bin, dBin_lss, dBin_gtr, ev_const, ev_tmp, Tr.get_put, put_some, Nat.reduceEqDiff, Option.getD_some, if_true, if_false, thenC_normal, guardOf_eq, guardGet_some, List.getElem?_cons_succ, List.getElem?_cons_zero, dBin_geq, e6, e7, q1, q2, q3, q4, Bool.false_eq_true]
            (repeat refine EvC.seq ?_); refine EvC.condT (by simp only [ev_tmp, Tr.get_put, Nat.reduceEqDiff, Option.getD_some, if_true, if_false]) ?_
            (repeat refine EvC.seq ?_); refine EvC.reg ?_; simp (config := { maxSteps := 2000000 }) (disch := omega) only [EL_cons, EL_nil, LX_val, dop_assign, ev_const, put_some, thenC_normal]
            refine EvC.ret ?_
            try simp (config := { maxSteps := 2000000 }) (disch := omega) only [thenC_ret, inBlock_ret]
            exact leave_one rfl (by simp only [Tr.get_put, Nat.reduceEqDiff, if_true, if_false]; rfl) ⟨by rw [fin], HX.refl hw⟩
      · have hst : stepR (s[i] :: s.data.toList.drop (i + 1)) = some (n + 1) := by simp only [stepR, ← hm', hlead, hcont, if_neg hbad]
        have q1 : decide ((c' : Int) < (lo : Int)) = false := decide_eq_false (by omega)
        have q2 : decide ((c' : Int) > 1114111) = false := decide_eq_false (by omega)
        have nxt : utfR (s.size - (i + 1 + n)) (s.data.toList.drop (i + 1 + n)) = utfR s.size s.data.toList := by
          rw [← hc, hst]
          simp only [List.drop_succ_cons, List.drop_drop]
          rw [utfR_valid _ _ (by rw [List.length_drop, len_bytes]; omega), utfR_valid _ _ (by rw [List.length_drop, len_bytes]; omega)]
        by_cases h3 : 55296 ≤ c'
        · have q3 : decide ((c' : Int) ≥ 55296) = true := decide_eq_true (by omega)
          have q4 : decide ((c' : Int) < 57344) = false := decide_eq_false (by omega)
          (repeat refine EvC.seq ?_); refine EvC.reg ?_; simp (config := { maxSteps := 2000000 }) (disch := omega) only [EL_cons, EL_nil, EL_guard, LX_val, LG_tt, LG_ff, dop_move, dop_pick, dPick_bool, dop_bin, dBin_lss, dBin_gtr, ev_const, ev_tmp, Tr.get_put, put_some, Nat.reduceEqDiff, Option.getD_some, if_true, if_false, thenC_normal, guardOf_eq, guardGet_some, List.getElem?_cons_succ, List.getElem?_cons_zero, dBin_geq, e6, e7, q1, q2, q3, q4, Bool.false_eq_true]
          (repeat refine EvC.seq ?_); refine EvC.condF (by simp only [ev_tmp, Tr.get_put, Nat.reduceEqDiff, Option.getD_some, if_true, if_false]) (EvC.skip ?_)
          try simp (config := { maxSteps := 2000000 }) (disch := omega) only [thenC_normal]
          (repeat refine EvC.seq ?_); refine EvC.reg ?_; simp (config := { maxSteps := 2000000 }) (disch := omega) only [EL_cons, EL_nil, LX_val, dop_assign, dop_move, dop_bin, dBin_add, ev_const, ev_tmp, Tr.get_put, put_some, Nat.reduceEqDiff, Option.getD_some, if_true, if_false, thenC_normal, inBlock_normal, e3, e5, wrap_i64]
          exact ⟨s.size - (i + 1 + n), by omega, _, i + 1 + n, rfl, rfl, by omega, nxt, by simp only [Tr.get_put, reduceCtorEq, if_false]; exact e0, by simp only [Tr.get_put, Nat.reduceEqDiff, if_true, if_false]; exact congrArg (fun z => some (Value.int .i64 z)) (by omega)⟩
        · have q3 : decide ((c' : Int) ≥ 55296) = false := decide_eq_false (by omega)
          (repeat refine EvC.seq ?_); refine EvC.reg ?_; simp (config := { maxSteps := 2000000 }) (disch := omega) only [EL_cons, EL_nil, EL_guard, LX_val, LG_ff, LG_tf, dop_move, dop_pick, dPick_bool, dop_bin, dBin_lss, dBin_gtr, ev_const, ev_tmp, Tr.get_put, put_some, Nat.reduceEqDiff, Option.getD_some, if_true, if_false, thenC_normal, guardOf_eq, guardGet_some, List.getElem?_cons_succ, List.getElem?_cons_zero, dBin_geq, e6, e7, q1, q2, q3, Bool.false_eq_true]
          (repeat refine EvC.seq ?_); refine EvC.condF (by simp only [ev_tmp, Tr.get_put, Nat.reduceEqDiff, Option.getD_some, if_true, if_false]) (EvC.skip ?_)
          try simp (config := { maxSteps := 2000000 }) (disch := omega) only [thenC_normal]
          (repeat refine EvC.seq ?_); refine EvC.reg ?_; simp (config := { maxSteps := 2000000 }) (disch := omega) only [EL_cons, EL_nil, LX_val, dop_assign, dop_move, dop_bin, dBin_add, ev_const, ev_tmp, Tr.get_put, put_some, Nat.reduceEqDiff, Option.getD_some, if_true, if_false, thenC_normal, inBlock_normal, e3, e5, wrap_i64]
          exact ⟨s.size - (i + 1 + n), by omega, _, i + 1 + n, rfl, rfl, by omega, nxt, by simp only [Tr.get_put, reduceCtorEq, if_false]; exact e0, by simp only [Tr.get_put, Nat.reduceEqDiff, if_true, if_false]; exact congrArg (fun z => some (Value.int .i64 z)) (by omega)⟩
    · refine EvC.condF (by simp only [ev_tmp, Tr.get_put, Nat.reduceEqDiff, Option.getD_some, if_true, if_false]; exact congrArg _ (decide_eq_false (by omega))) (EvC.exit ?_)
      try simp (config := { maxSteps := 2000000 }) (disch := omega) only [if_true, thenC_normal, inBlock_exit, thenC_exit]
      (repeat refine EvC.seq ?_); refine EvC.reg ?_; simp (config := { maxSteps := 2000000 }) (disch := omega) only [EL_cons, EL_nil, LX_val, dop_assign, ev_const, put_some, thenC_normal]
      refine EvC.ret (leave_one rfl (by simp only [Tr.get_put, Nat.reduceEqDiff, if_true, if_false]; rfl) ⟨?_, HX.refl hw⟩)
      rw [← hc, show s.size - i = 0 by omega, utfR]
  · exact ⟨_, 0, rfl, by omega, by omega, rfl, by simp only [Tr.get_put, reduceCtorEq, if_true, if_false], by simp only [Tr.get_put, Nat.reduceEqDiff, reduceCtorEq, if_true, if_false]; rfl⟩
end Go.Proofs.YtlllbkjiadcloaaDoor.hb
end
