import Derived.Test.YtlllbkjiadcloaaDoorM3
import Derived.Test.YtlllbkjiadcloaaDoorM4
import Derived.Lib.ValidLaws
/- Lemmas on the program's own code, towards the laws of this folder, part 5. Conditions: as each lemma says. -/
-- W2
section
/- Counting a term's nodes: the reference, and both 'Nodes'. -/
namespace Go.Proofs.YtlllbkjiadcloaaDoor.hb
open Go Go.RowKit Go.Hb

theorem call49 : callable Tryd.prog 49 = true := by kernel_rfl
theorem call13 : callable Tryd.prog 13 = true := by kernel_rfl
theorem call14 : callable Tryd.prog 14 = true := by kernel_rfl

variable {ok : Ok}
set_option maxRecDepth 10000 in
theorem count_ref_ev (hk : ∀ args H, ok.K 49 args H = none) (hm : ok.testBit 49 = true) : ∀ (m : Nat) {t : Tm} {cs : List Value} {H : Heap}, SizeOf.sizeOf t < m → RepT H t cs → H.wf → ∀ n : Nat, n ≤ 4000 →
    EvF Tryd.prog ok 49 [.agg ⟨cs⟩, .int .i64 n] H fun v H' => v = .int .i64 (cnt t n) ∧ HX H H' := by
  intro m
  induction m with
  | zero => intro t cs H h; omega
  | succ m ih =>
  intro t cs H hsz r hw n hn
  obtain ⟨a, c, cells, rfl, b1, b2, b3, b4, b5, rl⟩ := r.inv
  refine EvF.enter (hk _ _) Tryd.func49 hm rfl ?_
  (repeat refine EvC.seq ?_); refine EvC.reg ?_
  simp (disch := omega) only [sA, initTm, dBox, Value.cells, one, reduceCtorEq, if_true, if_false]
  (repeat refine EvC.seq ?_); refine EvC.reg ?_
  simp (disch := omega) only [sA, Nat.reduceEqDiff, reduceCtorEq, if_true, if_false, wrap_i64]
  (repeat refine EvC.seq ?_); refine EvC.reg ?_
  simp (disch := omega) only [sA]
  (repeat refine EvC.seq ?_); refine EvC.block (EvC.loop (fun k st => ∃ tm H' i n', st = ⟨tm, [], H'⟩ ∧ k = t.args.length - i ∧ i ≤ t.args.length ∧ n' ≤ 4001 ∧ cntL (t.args.drop i) n' = cnt t n ∧ tm.get 1 = some (.int .i64 (n' : Nat)) ∧
    tm.get 2 = some (.pointer (some ⟨H.next, 0, none⟩)) ∧ tm.get 5 = some (.int .i64 (i : Nat)) ∧
    H'.get H.next = some (.row [.int .i64 t.kind, .string t.name, .string t.num, .int .u64 t.bits, .int .i64 t.var, .slice a t.args.length c] 26) ∧ H.next < H'.next ∧ HX H H') ?_ t.args.length _ ?_)
  · rintro k st ⟨tm, H', i, n', rfl, hk', hi, hn', hc, g1, g2, g5, hbox, hlt0, hx⟩
    have hld5 : H'.load ⟨H.next, 5, none⟩ 1 = some [.slice a t.args.length c] := by
      simp only [Heap.load, Heap.cells, hbox]; rfl
    (repeat refine EvC.seq ?_); refine EvC.reg ?_
    by_cases hlt : i < t.args.length
    · obtain ⟨b, o, rfl, hload, hrep⟩ := rl.at (i := i) (List.getElem?_eq_getElem hlt)
      obtain ⟨a', c', cells', hcell, -⟩ := hrep.inv
      have hld := hx.load hw hload
      rw [hcell] at hld hrep
      have hd1 : decide ((i : Int) < (t.args.length : Int)) = true := decide_eq_true (by omega)
      simp (disch := omega) only [sA, Nat.reduceEqDiff, if_true, if_false, g1, g2, g5, dFieldAddr_at fld26_5 one24, dLoad_one agg24, hld5, dLn_slice Tryd.underlying24, hd1]
      by_cases hov : 4000 < n'
      · (repeat refine EvC.seq ?_); refine EvC.condF (by simp only [sA, Nat.reduceEqDiff, if_true, if_false]; exact congrArg _ (decide_eq_false (by omega))) (EvC.exit ?_)
        simp only [thenC_exit, inBlock_exit, reduceIte, thenC_normal]
        (repeat refine EvC.seq ?_); refine EvC.reg ?_
        simp (disch := omega) only [sA, Nat.reduceEqDiff, if_true, if_false, g1]
        refine EvC.ret (leave_one rfl (by simp only [Tr.get_put, Nat.reduceEqDiff, if_true, if_false]; rfl) ⟨?_, hx⟩)
        rw [← hc, cntL_over hov]
      · (repeat refine EvC.seq ?_); refine EvC.condT (by simp only [sA, Nat.reduceEqDiff, if_true, if_false]; exact congrArg _ (decide_eq_true (by omega))) (EvC.skip ?_)
        simp only [thenC_normal]
        (repeat refine EvC.seq ?_); refine EvC.block ?_; (repeat refine EvC.seq ?_); refine EvC.reg ?_
        simp (disch := omega) only [sA, Nat.reduceEqDiff, if_true, if_false, g1, g2, g5, dFieldAddr_at fld26_5 one24, dLoad_one agg24, hld5, dIndexAddr_slice Tryd.underlying24 info26 hlt, dLoad_agg agg26, cells26, hld, dop_call call49]
        have ht : t.args[i]? = some t.args[i] := List.getElem?_eq_getElem hlt
        have hs := args_size ht
        refine (ih (t := t.args[i]) (by omega) (hrep.mono hx hw) hx.wf n' (by omega)).mono ?_
        rintro v H2 ⟨rfl, hx3⟩
        have hL : t.args.length ≤ 9223372036854775807 := Nat.le_trans rl.len rl.cap
        refine EvC.reg ?_
        simp (disch := omega) only [sA, Nat.reduceEqDiff, if_true, if_false, g5, wrap_i64]
        refine ⟨t.args.length - (i + 1), by omega, _, _, i + 1, cnt t.args[i] n', rfl, rfl, by omega, cnt_le _ _ (Nat.lt_succ_self _) _ (by omega), by rw [← hc, cntL_drop ht _ (by omega)], by simp only [Tr.get_put, Nat.reduceEqDiff, if_true, if_false], by simp only [Tr.get_put, Nat.reduceEqDiff, if_false]; exact g2, by simp only [Tr.get_put, Nat.reduceEqDiff, if_true, if_false]; rfl,
          by rw [hx3.keep _ hlt0]; exact hbox, Nat.lt_of_lt_of_le hlt0 hx3.next, hx.trans hx3⟩
    · have hd1 : decide ((i : Int) < (t.args.length : Int)) = false := decide_eq_false (by omega)
      simp (disch := omega) only [sA, Nat.reduceEqDiff, if_true, if_false, g2, g5, dFieldAddr_at fld26_5 one24, dLoad_one agg24, hld5, dLn_slice Tryd.underlying24, hd1, Bool.false_eq_true]
      (repeat refine EvC.seq ?_); refine EvC.condF (by simp only [sA, Nat.reduceEqDiff, if_true, if_false]) (EvC.exit ?_)
      simp only [thenC_exit, inBlock_exit, reduceIte, thenC_normal]
      (repeat refine EvC.seq ?_); refine EvC.reg ?_
      simp (disch := omega) only [sA, Nat.reduceEqDiff, if_true, if_false, g1]
      refine EvC.ret (leave_one rfl (by simp only [Tr.get_put, Nat.reduceEqDiff, if_true, if_false]; rfl) ⟨?_, hx⟩)
      rw [← hc, List.drop_of_length_le (by omega), cntL]
  · exact ⟨_, _, 0, n + 1, rfl, rfl, by omega, by omega, by rw [cnt_args]; rfl, by simp only [Tr.get_put, Nat.reduceEqDiff, reduceCtorEq, if_true, if_false]; rfl, by simp only [Tr.get_put, Nat.reduceEqDiff, reduceCtorEq, if_true, if_false], by simp only [Tr.get_put, Nat.reduceEqDiff, reduceCtorEq, if_true, if_false]; rfl, by simp only [if_true, get_new], Nat.lt_succ_self _, (HX.refl hw).new _⟩

theorem nodes_ev (hk : ∀ f args H, (f = 48 ∨ f = 13) → ok.K f args H = none) (hm : ok.testBit 48 = true) (hm2 : ok.testBit 13 = true) {t : Tm} {cs : List Value} {H : Heap} (r : RepT H t cs) (hw : H.wf) :
    EvF Tryd.prog ok 13 [.agg ⟨cs⟩] H fun v H' => v = .int .i64 (cnt t 0) ∧ HX H H' := by
  obtain ⟨a, c, cells, rfl, b1, b2, b3, b4, b5, rl⟩ := r.inv
  refine EvF.enter (hk _ _ _ (.inr rfl)) Tryd.func13 hm2 rfl ?_
  (repeat refine EvC.seq ?_); refine EvC.reg ?_
  simp (disch := omega) only [sA, initTm, dBox, Value.cells, one, if_true]
  (repeat refine EvC.seq ?_); refine EvC.reg ?_
  simp (disch := omega) only [sA, Nat.reduceEqDiff, Nat.reduceAdd, reduceCtorEq, if_true, if_false, cutC, dLoad_agg agg26, cells26, dop_call call48]
  have hx := (HX.refl hw).new (some (Blk.row [Value.int IntKind.i64 t.kind, Value.string t.name, Value.string t.num, Value.int IntKind.u64 t.bits, Value.int IntKind.i64 t.var, Value.slice a t.args.length c] 26))
  refine (count_ev (hk 48 · · (.inl rfl)) hm _ (Nat.lt_succ_self _) (r.mono hx hw) hx.wf 0 (by omega)).mono ?_
  rintro v H2 ⟨rfl, hx3⟩
  have hle := cnt_le _ t (Nat.lt_succ_self _) 0 (by omega)
  have hif : (if (4001 : Int) < (cnt t 0 : Int) then (4001 : Int) else (cnt t 0 : Int)) = (cnt t 0 : Int) := if_neg (by omega)
  simp (disch := omega) only [sA, Nat.reduceEqDiff, reduceCtorEq, if_true, if_false, dop_min, min_int, hif]
  exact EvC.ret (leave_one rfl (by simp only [Tr.get_put, Nat.reduceEqDiff, reduceCtorEq, if_true, if_false]) ⟨rfl, hx.trans hx3⟩)

theorem nodes_ref_ev (hk : ∀ f args H, (f = 49 ∨ f = 14) → ok.K f args H = none) (hm : ok.testBit 49 = true) (hm2 : ok.testBit 14 = true) {t : Tm} {cs : List Value} {H : Heap} (r : RepT H t cs) (hw : H.wf) :
    EvF Tryd.prog ok 14 [.agg ⟨cs⟩] H fun v H' => v = .int .i64 (cnt t 0) ∧ HX H H' := by
  obtain ⟨a, c, cells, rfl, b1, b2, b3, b4, b5, rl⟩ := r.inv
  refine EvF.enter (hk _ _ _ (.inr rfl)) Tryd.func14 hm2 rfl ?_
  (repeat refine EvC.seq ?_); refine EvC.reg ?_
  simp (disch := omega) only [sA, initTm, dBox, Value.cells, one, if_true]
  (repeat refine EvC.seq ?_); refine EvC.reg ?_
  simp (disch := omega) only [sA, Nat.reduceEqDiff, Nat.reduceAdd, reduceCtorEq, if_true, if_false, cutC, dLoad_agg agg26, cells26, dop_call call49]
  have hx := (HX.refl hw).new (some (Blk.row [Value.int IntKind.i64 t.kind, Value.string t.name, Value.string t.num, Value.int IntKind.u64 t.bits, Value.int IntKind.i64 t.var, Value.slice a t.args.length c] 26))
  refine (count_ref_ev (hk 49 · · (.inl rfl)) hm _ (Nat.lt_succ_self _) (r.mono hx hw) hx.wf 0 (by omega)).mono ?_
  rintro v H2 ⟨rfl, hx3⟩
  have hle := cnt_le _ t (Nat.lt_succ_self _) 0 (by omega)
  (repeat refine EvC.seq ?_); refine EvC.reg ?_
  simp (disch := omega) only [sA, Nat.reduceEqDiff, reduceCtorEq, if_true, if_false]
  by_cases hov : 4000 < cnt t 0
  · refine EvC.condT (by simp only [sA, Nat.reduceEqDiff, reduceCtorEq, if_true, if_false]; exact congrArg _ (decide_eq_true (by omega))) ?_
    (repeat refine EvC.seq ?_); refine EvC.reg ?_
    simp (disch := omega) only [sA]
    refine EvC.ret ?_
    simp only [thenC_ret]
    exact leave_one rfl (by simp only [Tr.get_put, Nat.reduceEqDiff, reduceCtorEq, if_true, if_false]; rfl) ⟨by rw [show cnt t 0 = 4001 by omega]; first | done | rfl, hx.trans hx3⟩
  · refine EvC.condF (by simp only [sA, Nat.reduceEqDiff, reduceCtorEq, if_true, if_false]; exact congrArg _ (decide_eq_false (by omega))) (EvC.skip ?_)
    simp only [thenC_normal]
    (repeat refine EvC.seq ?_); refine EvC.reg ?_
    simp (disch := omega) only [sA, Nat.reduceEqDiff, reduceCtorEq, if_true, if_false]
    exact EvC.ret (leave_one rfl (by simp only [Tr.get_put, Nat.reduceEqDiff, reduceCtorEq, if_true, if_false]) ⟨rfl, hx.trans hx3⟩)
end Go.Proofs.YtlllbkjiadcloaaDoor.hb
end

-- W3
section
/- A node by itself: the fields that its kind does not use. -/
namespace Go.Proofs.YtlllbkjiadcloaaDoor.hb
open Go Go.RowKit Go.Hb

theorem fld26_0 : fldOf Tryd.prog 26 0 = some (0, 3) := by kernel_rfl
theorem fld26_1 : fldOf Tryd.prog 26 1 = some (1, 9) := by kernel_rfl
theorem fld26_2 : fldOf Tryd.prog 26 2 = some (2, 9) := by kernel_rfl
theorem fld26_3 : fldOf Tryd.prog 26 3 = some (3, 23) := by kernel_rfl
theorem fld26_4 : fldOf Tryd.prog 26 4 = some (4, 3) := by kernel_rfl
theorem one3 : Nat.beq (Tryd.prog.cellsOf 3) 0 = false := by kernel_rfl
theorem one9 : Nat.beq (Tryd.prog.cellsOf 9) 0 = false := by kernel_rfl
theorem one23 : Nat.beq (Tryd.prog.cellsOf 23) 0 = false := by kernel_rfl
theorem cells3 : Tryd.prog.cellsOf 3 = 1 := by kernel_rfl
theorem cells9 : Tryd.prog.cellsOf 9 = 1 := by kernel_rfl
theorem cells23 : Tryd.prog.cellsOf 23 = 1 := by kernel_rfl
theorem cells24 : Tryd.prog.cellsOf 24 = 1 := by kernel_rfl
theorem agg3 : isAgg? Tryd.prog 3 = some false := by kernel_rfl
theorem agg9 : isAgg? Tryd.prog 9 = some false := by kernel_rfl
theorem agg23 : isAgg? Tryd.prog 23 = some false := by kernel_rfl
theorem info3 : (Tryd.prog.info? 3).isSome = true := by kernel_rfl
theorem info9 : (Tryd.prog.info? 9).isSome = true := by kernel_rfl
theorem info23 : (Tryd.prog.info? 23).isSome = true := by kernel_rfl
theorem info24 : (Tryd.prog.info? 24).isSome = true := by kernel_rfl

theorem toList_empty : ByteArray.toList { data := #[] } = [] := by
  rw [ByteArray.toList, ByteArray.toList.loop]; rfl
def isE (s : ByteArray) : Bool := s.toList == []
/-- the fields that a kind does not use are their zero values -/
def blankB (t : Tm) : Bool :=
  (t.kind == 2 || t.kind == 5 || isE t.name) && (t.kind == 3 || isE t.num) && (t.kind == 4 || t.bits == 0) && (t.kind == 1 || t.var == 0) && (t.kind == 5 || (t.args.length : Int) == 0)

variable {ok : Ok}
set_option maxRecDepth 10000 in
set_option maxHeartbeats 2000000 in
theorem blank_ev (hk : ∀ args H, ok.K 100 args H = none) (hm : ok.testBit 100 = true) {t : Tm} {cs : List Value} {H : Heap} (r : RepT H t cs) (hw : H.wf) :
    EvF Tryd.prog ok 100 [.agg ⟨cs⟩] H fun v H' => v = .bool (blankB t) ∧ HX H H' := by
  obtain ⟨a, c, cells, rfl, b1, b2, b3, b4, b5, rl⟩ := r.inv
  refine EvF.enter (hk _ _) Tryd.func100 hm rfl ?_
  (repeat refine EvC.seq ?_); refine EvC.reg ?_
  simp (disch := omega) only [sA, initTm, dBox, Value.cells, one, if_true]
  (repeat refine EvC.seq ?_); refine EvC.reg ?_
  simp (disch := omega) only [sA, Nat.reduceEqDiff, reduceCtorEq, if_true, if_false, cutC, dFieldAddr_at fld26_0 one3, dLoad_one agg3]
  refine EvC.meet (fun st => ∃ tm H' nm nu b v a n c, st = ⟨tm, [], H'⟩ ∧ tm.get 1 = some (.pointer (some ⟨H.next, 0, none⟩)) ∧ H'.get H.next = some (.row [.int .i64 t.kind, .string nm, .string nu, .int .u64 b, .int .i64 v, .slice a n c] 26) ∧
    HX H H' ∧ (isE nm && isE nu && b == 0 && v == 0 && (n : Int) == 0) = blankB t) ?_ ?_
  · refine EvC.block ?_
    have hx0 := (HX.refl hw).new (some (Blk.row [Value.int IntKind.i64 t.kind, Value.string t.name, Value.string t.num, Value.int IntKind.u64 t.bits, Value.int IntKind.i64 t.var, Value.slice a t.args.length c] 26))
    have hxp : ∀ B, HX H ((H.new (some (Blk.row [Value.int IntKind.i64 t.kind, Value.string t.name, Value.string t.num, Value.int IntKind.u64 t.bits, Value.int IntKind.i64 t.var, Value.slice a t.args.length c] 26))).put H.next B) := fun B => hx0.put (Nat.le_refl _) (Nat.lt_succ_self _) B
    (repeat refine EvC.seq ?_); refine EvC.reg ?_
    simp (disch := omega) only [sA, Nat.reduceEqDiff, reduceCtorEq, if_true, if_false]
    by_cases k1 : t.kind = 1
    · refine EvC.condT (by simp only [sA, Nat.reduceEqDiff, reduceCtorEq, if_true, if_false]; rw [k1]; rfl) ?_
      (repeat refine EvC.seq ?_); refine EvC.reg ?_
      simp (disch := omega) only [sA, Nat.reduceEqDiff, Nat.reduceAdd, one, reduceCtorEq, if_true, if_false, Nat.reduceLeDiff, dFieldAddr_at fld26_4 one3, dStore_int info3 cells3]
      exact ⟨_, _, t.name, t.num, t.bits, 0, a, t.args.length, c, rfl, by simp only [Tr.get_put, Nat.reduceEqDiff, reduceCtorEq, if_true, if_false], by simp only [sA, if_true], hxp _, by simp [blankB, k1]⟩
    refine EvC.condF (by simp only [sA, Nat.reduceEqDiff, reduceCtorEq, if_true, if_false]; rw [show (t.kind == 1) = false by simpa using k1]) ?_
    (repeat refine EvC.seq ?_); refine EvC.reg ?_
    simp (disch := omega) only [sA, Nat.reduceEqDiff, reduceCtorEq, if_true, if_false]
    by_cases k2 : t.kind = 2
    · refine EvC.condT (by simp only [sA, Nat.reduceEqDiff, reduceCtorEq, if_true, if_false]; rw [k2]; rfl) ?_
      (repeat refine EvC.seq ?_); refine EvC.reg ?_
      simp (disch := omega) only [sA, Nat.reduceEqDiff, Nat.reduceAdd, one, reduceCtorEq, if_true, if_false, Nat.reduceLeDiff, dFieldAddr_at fld26_1 one9, dStore_string info9 cells9]
      exact ⟨_, _, ByteArray.empty, t.num, t.bits, t.var, a, t.args.length, c, rfl, by simp only [Tr.get_put, Nat.reduceEqDiff, reduceCtorEq, if_true, if_false], by simp only [sA, if_true]; rfl, hxp _, by simp [blankB, k2, isE]⟩
    refine EvC.condF (by simp only [sA, Nat.reduceEqDiff, reduceCtorEq, if_true, if_false]; rw [show (t.kind == 2) = false by simpa using k2]) ?_
    (repeat refine EvC.seq ?_); refine EvC.reg ?_
    simp (disch := omega) only [sA, Nat.reduceEqDiff, reduceCtorEq, if_true, if_false]
    by_cases k3 : t.kind = 3
    · refine EvC.condT (by simp only [sA, Nat.reduceEqDiff, reduceCtorEq, if_true, if_false]; rw [k3]; rfl) ?_
      (repeat refine EvC.seq ?_); refine EvC.reg ?_
      simp (disch := omega) only [sA, Nat.reduceEqDiff, Nat.reduceAdd, one, reduceCtorEq, if_true, if_false, Nat.reduceLeDiff, dFieldAddr_at fld26_2 one9, dStore_string info9 cells9]
      exact ⟨_, _, t.name, ByteArray.empty, t.bits, t.var, a, t.args.length, c, rfl, by simp only [Tr.get_put, Nat.reduceEqDiff, reduceCtorEq, if_true, if_false], by simp only [sA, if_true]; rfl, hxp _, by simp [blankB, k3, isE]⟩
    refine EvC.condF (by simp only [sA, Nat.reduceEqDiff, reduceCtorEq, if_true, if_false]; rw [show (t.kind == 3) = false by simpa using k3]) ?_
    (repeat refine EvC.seq ?_); refine EvC.reg ?_
    simp (disch := omega) only [sA, Nat.reduceEqDiff, reduceCtorEq, if_true, if_false]
    by_cases k4 : t.kind = 4
    · refine EvC.condT (by simp only [sA, Nat.reduceEqDiff, reduceCtorEq, if_true, if_false]; rw [k4]; rfl) ?_
      (repeat refine EvC.seq ?_); refine EvC.reg ?_
      simp (disch := omega) only [sA, Nat.reduceEqDiff, Nat.reduceAdd, one, reduceCtorEq, if_true, if_false, Nat.reduceLeDiff, dFieldAddr_at fld26_3 one23, dStore_int info23 cells23]
      exact ⟨_, _, t.name, t.num, 0, t.var, a, t.args.length, c, rfl, by simp only [Tr.get_put, Nat.reduceEqDiff, reduceCtorEq, if_true, if_false], by simp only [sA, if_true], hxp _, by simp [blankB, k4]⟩
    refine EvC.condF (by simp only [sA, Nat.reduceEqDiff, reduceCtorEq, if_true, if_false]; rw [show (t.kind == 4) = false by simpa using k4]) ?_
    (repeat refine EvC.seq ?_); refine EvC.reg ?_
    simp (disch := omega) only [sA, Nat.reduceEqDiff, reduceCtorEq, if_true, if_false]
    by_cases k5 : t.kind = 5
    · refine EvC.condT (by simp only [sA, Nat.reduceEqDiff, reduceCtorEq, if_true, if_false]; rw [k5]; rfl) ?_
      (repeat refine EvC.seq ?_); refine EvC.reg ?_
      simp (disch := omega) only [sA, Nat.reduceEqDiff, Nat.reduceAdd, one, reduceCtorEq, if_true, if_false, Nat.reduceLeDiff, dFieldAddr_at fld26_1 one9, dFieldAddr_at fld26_5 one24, dStore_string info9 cells9, dStore_slice info24 cells24]
      exact ⟨_, _, ByteArray.empty, t.num, t.bits, t.var, none, 0, 0, rfl, by simp only [Tr.get_put, Nat.reduceEqDiff, reduceCtorEq, if_true, if_false], by simp only [sA, if_true]; rfl, (hxp _).put (Nat.le_refl _) (Nat.lt_succ_self _) _, by simp [blankB, k5, isE]⟩
    refine EvC.condF (by simp only [sA, Nat.reduceEqDiff, reduceCtorEq, if_true, if_false]; rw [show (t.kind == 5) = false by simpa using k5]) (EvC.skip ?_)
    exact ⟨rfl, _, _, t.name, t.num, t.bits, t.var, a, t.args.length, c, rfl, by simp only [Tr.get_put, Nat.reduceEqDiff, reduceCtorEq, if_true, if_false], by simp only [if_true, get_new], hx0, by simp [blankB, show (t.kind == 1) = false by simpa using k1, show (t.kind == 2) = false by simpa using k2, show (t.kind == 3) = false by simpa using k3, show (t.kind == 4) = false by simpa using k4, show (t.kind == 5) = false by simpa using k5]⟩
  · rintro st ⟨tm, H', nm, nu, b, v, a, n, c, rfl, g1, hrow, hx, hres⟩
    simp only [thenC_normal]
    have l1 : H'.load ⟨H.next, 1, none⟩ 1 = some [.string nm] := by simp only [Heap.load, Heap.cells, hrow]; rfl
    have l2 : H'.load ⟨H.next, 2, none⟩ 1 = some [.string nu] := by simp only [Heap.load, Heap.cells, hrow]; rfl
    have l3 : H'.load ⟨H.next, 3, none⟩ 1 = some [.int .u64 b] := by simp only [Heap.load, Heap.cells, hrow]; rfl
    have l4 : H'.load ⟨H.next, 4, none⟩ 1 = some [.int .i64 v] := by simp only [Heap.load, Heap.cells, hrow]; rfl
    have l5 : H'.load ⟨H.next, 5, none⟩ 1 = some [.slice a n c] := by simp only [Heap.load, Heap.cells, hrow]; rfl
    (repeat refine EvC.seq ?_); refine EvC.reg ?_
    unfold isE at hres
    cases h1 : (nm.toList == []) with
    | false =>
      simp (disch := omega) only [sA, Nat.reduceEqDiff, if_true, if_false, dBin_eqlS, g1, dFieldAddr_at fld26_1 one9, dLoad_one agg9, l1, toList_empty, h1, Bool.false_eq_true]
      exact EvC.ret (leave_one rfl (by simp only [Tr.get_put, Nat.reduceEqDiff, if_true, if_false]; rfl) ⟨by rw [← hres, h1]; rfl, hx⟩)
    | true =>
    cases h2 : (nu.toList == []) with
    | false =>
      simp (disch := omega) only [sA, Nat.reduceEqDiff, if_true, if_false, dBin_eqlS, g1, dFieldAddr_at fld26_1 one9, dFieldAddr_at fld26_2 one9, dLoad_one agg9, l1, l2, toList_empty, Bool.false_eq_true, h1, h2]
      exact EvC.ret (leave_one rfl (by simp only [Tr.get_put, Nat.reduceEqDiff, if_true, if_false]; rfl) ⟨by rw [← hres, h1, h2]; rfl, hx⟩)
    | true =>
    cases h3 : (b == 0) with
    | false =>
      simp (disch := omega) only [sA, Nat.reduceEqDiff, if_true, if_false, dBin_eqlS, g1, dFieldAddr_at fld26_1 one9, dFieldAddr_at fld26_2 one9, dFieldAddr_at fld26_3 one23, dLoad_one agg9, dLoad_one agg23, l1, l2, l3, toList_empty, Bool.false_eq_true, h1, h2, h3]
      exact EvC.ret (leave_one rfl (by simp only [Tr.get_put, Nat.reduceEqDiff, if_true, if_false]; rfl) ⟨by rw [← hres, h1, h2, h3]; rfl, hx⟩)
    | true =>
    cases h4 : (v == 0) with
    | false =>
      simp (disch := omega) only [sA, Nat.reduceEqDiff, if_true, if_false, dBin_eqlS, g1, dFieldAddr_at fld26_1 one9, dFieldAddr_at fld26_2 one9, dFieldAddr_at fld26_3 one23, dFieldAddr_at fld26_4 one3, dLoad_one agg9, dLoad_one agg3, dLoad_one agg23, l1, l2, l3, l4, toList_empty, Bool.false_eq_true, h1, h2, h3, h4]
      exact EvC.ret (leave_one rfl (by simp only [Tr.get_put, Nat.reduceEqDiff, if_true, if_false]; rfl) ⟨by rw [← hres, h1, h2, h3, h4]; rfl, hx⟩)
    | true =>
      simp (disch := omega) only [sA, Nat.reduceEqDiff, if_true, if_false, dBin_eqlS, g1, dFieldAddr_at fld26_1 one9, dFieldAddr_at fld26_2 one9, dFieldAddr_at fld26_3 one23, dFieldAddr_at fld26_4 one3, dFieldAddr_at fld26_5 one24, dLoad_one agg9, dLoad_one agg3, dLoad_one agg23, dLoad_one agg24, l1, l2, l3, l4, l5, toList_empty, dLn_slice Tryd.underlying24, h1, h2, h3, h4]
      exact EvC.ret (leave_one rfl (by simp only [Tr.get_put, Nat.reduceEqDiff, if_true, if_false]; rfl) ⟨by rw [← hres, h1, h2, h3, h4]; rfl, hx⟩)
end Go.Proofs.YtlllbkjiadcloaaDoor.hb
end

-- W4
section
/- A node by itself: what is wrong with it. -/
namespace Go.Proofs.YtlllbkjiadcloaaDoor.hb
open Go Go.RowKit Go.Hb

/-- what is wrong with a node alone; 'utf': is a name well formed? 'num': is a text an integer's? 'flt': are bits a float's? -/
def nodeE (utf num : ByteArray → Bool) (flt : Int → Bool) (t : Tm) : Int :=
  if t.kind < 1 ∨ 5 < t.kind then 20 else if blankB t = false then 20 else if t.var < 0 then 20 else if t.kind = 5 ∧ (t.args.length = 0 ∨ 64 < t.args.length) then 20
  else if utf t.name = false then 21 else if 1000 < t.name.size then 21 else if t.kind = 3 ∧ num t.num = false then 22 else if t.kind = 4 ∧ flt t.bits = false then 23 else 0

def bndB (t : Tm) : Bool := decide (t.var < 0) || (t.kind == 5 && ((t.args.length : Int) == 0 || decide ((t.args.length : Int) > 64)))
theorem nodeE_bnd {utf num : ByteArray → Bool} {flt : Int → Bool} {t : Tm} (h1 : ¬ (t.kind < 1 ∨ 5 < t.kind)) (h2 : blankB t = true) (h3 : bndB t = true) : nodeE utf num flt t = 20 := by
  rw [nodeE, if_neg h1, if_neg (by rw [h2]; simp)]
  unfold bndB at h3
  simp only [Bool.or_eq_true, Bool.and_eq_true, beq_iff_eq, decide_eq_true_eq] at h3
  by_cases hv : t.var < 0
  · rw [if_pos hv]
  · rw [if_neg hv, if_pos]
    rcases h3 with h | ⟨h, h' | h'⟩
    · exact absurd h hv
    · exact ⟨h, .inl (by omega)⟩
    · exact ⟨h, .inr (by omega)⟩
theorem nodeE_rest {utf num : ByteArray → Bool} {flt : Int → Bool} {t : Tm} (h1 : ¬ (t.kind < 1 ∨ 5 < t.kind)) (h2 : blankB t = true) (h3 : bndB t = false) :
    nodeE utf num flt t = if utf t.name = false then 21 else if 1000 < t.name.size then 21 else if t.kind = 3 ∧ num t.num = false then 22 else if t.kind = 4 ∧ flt t.bits = false then 23 else 0 := by
  rw [nodeE, if_neg h1, if_neg (by rw [h2]; simp)]
  unfold bndB at h3
  simp only [Bool.or_eq_false_iff, Bool.and_eq_false_iff, beq_eq_false_iff_ne, decide_eq_false_iff_not] at h3
  rw [if_neg h3.1, if_neg (fun h => by rcases h3.2 with h' | h' <;> first | exact h' h.1 | (have := h.2; omega))]

theorem call100 : callable Tryd.prog 100 = true := by kernel_rfl
theorem call101 : callable Tryd.prog 101 = true := by kernel_rfl
theorem call102 : callable Tryd.prog 102 = true := by kernel_rfl
theorem call105 : callable Tryd.prog 105 = true := by kernel_rfl
theorem call106 : callable Tryd.prog 106 = true := by kernel_rfl
theorem call107 : callable Tryd.prog 107 = true := by kernel_rfl

/-- a call that tells a Bool of a text, and leaves all as it is -/
def TellsS (ok : Ok) (f : FuncId) (g : ByteArray → Bool) : Prop := ∀ (s : ByteArray) (H : Heap), s.size ≤ maxLen → H.wf → EvF Tryd.prog ok f [.string s] H fun v H' => v = .bool (g s) ∧ HX H H'
def TellsU (ok : Ok) (f : FuncId) (g : Int → Bool) : Prop := ∀ (n : Int) (H : Heap), u64 n → H.wf → EvF Tryd.prog ok f [.int .u64 n] H fun v H' => v = .bool (g n) ∧ HX H H'

variable {ok : Ok}
set_option maxRecDepth 10000 in
set_option maxHeartbeats 4000000 in
theorem one_ev {utf num : ByteArray → Bool} {flt : Int → Bool} (hk : ∀ args H, ok.K 85 args H = none) (hm : ok.testBit 85 = true) (hU : TellsS ok 105 utf) (hN : TellsS ok 106 num) (hF : TellsU ok 107 flt)
    {t : Tm} {cs : List Value} {H : Heap} (r : RepT H t cs) (hw : H.wf) : EvF Tryd.prog ok 85 [.agg ⟨cs⟩] H fun v H' => v = .int .i64 (nodeE utf num flt t) ∧ HX H H' := by
  obtain ⟨a, c, cells, rfl, b1, b2, b3, b4, b5, rl⟩ := r.inv
  have hx := (HX.refl hw).new (some (Blk.row [Value.int IntKind.i64 t.kind, Value.string t.name, Value.string t.num, Value.int IntKind.u64 t.bits, Value.int IntKind.i64 t.var, Value.slice a t.args.length c] 26))
  refine EvF.enter (hk _ _) Tryd.func85 hm rfl ?_
  (repeat refine EvC.seq ?_); refine EvC.reg ?_; simp (config := { maxSteps := 2000000 }) (disch := first | omega | rfl) only [sA, initTm, dBox, Value.cells, one, if_true]
  (repeat refine EvC.seq ?_); refine EvC.reg ?_; simp (config := { maxSteps := 2000000 }) (disch := first | omega | rfl) only [sA, Nat.reduceEqDiff, reduceCtorEq, if_true, if_false, cutC, dFieldAddr_at fld26_0 one3, dLoad_one agg3]
  (repeat refine EvC.seq ?_); refine EvC.reg ?_; simp (config := { maxSteps := 2000000 }) (disch := first | omega | rfl) only [sA, Nat.reduceEqDiff, reduceCtorEq, if_true, if_false, cutC, dFieldAddr_at fld26_0 one3, dLoad_one agg3]
  (repeat refine EvC.seq ?_); refine EvC.reg ?_; simp (config := { maxSteps := 2000000 }) (disch := first | omega | rfl) only [sA, Nat.reduceEqDiff, reduceCtorEq, if_true, if_false, cutC, dFieldAddr_at fld26_0 one3, dLoad_one agg3]
  (repeat refine EvC.seq ?_); refine EvC.reg ?_; simp (config := { maxSteps := 2000000 }) (disch := first | omega | rfl) only [sA, Nat.reduceEqDiff, reduceCtorEq, if_true, if_false, cutC, dFieldAddr_at fld26_0 one3, dLoad_one agg3]
  (repeat refine EvC.seq ?_); refine EvC.reg ?_; simp (config := { maxSteps := 2000000 }) (disch := first | omega | rfl) only [sA, Nat.reduceEqDiff, reduceCtorEq, if_true, if_false, cutC, dFieldAddr_at fld26_0 one3, dLoad_one agg3]
  -- the kind
  refine EvC.frame (fun tm => tm.get 1 = some (.pointer (some ⟨H.next, 0, none⟩)) ∧ tm.get 3 = some (.bool (t.kind == 2)) ∧ tm.get 4 = some (.bool (t.kind == 5)) ∧ tm.get 5 = some (.bool (t.kind == 3)) ∧ tm.get 6 = some (.bool (t.kind == 4)) ∧ tm.get 7 = some (.bool (t.kind == 1))) ⟨by simp only [Tr.get_put, Nat.reduceEqDiff, reduceCtorEq, if_true, if_false], by simp only [Tr.get_put, Nat.reduceEqDiff, reduceCtorEq, if_true, if_false], by simp only [Tr.get_put, Nat.reduceEqDiff, reduceCtorEq, if_true, if_false], by simp only [Tr.get_put, Nat.reduceEqDiff, reduceCtorEq, if_true, if_false], by simp only [Tr.get_put, Nat.reduceEqDiff, reduceCtorEq, if_true, if_false], by simp only [Tr.get_put, Nat.reduceEqDiff, reduceCtorEq, if_true, if_false]⟩ ?_
  rintro tm ⟨g1, g3, g4, g5, g6, g7⟩
  refine EvC.seq ?_
  refine EvC.join (fun st => (1 ≤ t.kind ∧ t.kind ≤ 5) ∧ ∃ tm, st = ⟨tm, [], H.new (some (Blk.row [Value.int IntKind.i64 t.kind, Value.string t.name, Value.string t.num, Value.int IntKind.u64 t.bits, Value.int IntKind.i64 t.var, Value.slice a t.args.length c] 26))⟩ ∧ tm.get 1 = some (.pointer (some ⟨H.next, 0, none⟩)) ∧ tm.get 3 = some (.bool (t.kind == 2)) ∧ tm.get 4 = some (.bool (t.kind == 5)) ∧ tm.get 5 = some (.bool (t.kind == 3)) ∧ tm.get 6 = some (.bool (t.kind == 4)) ∧ tm.get 7 = some (.bool (t.kind == 1))) ?_ ?_
  · -- [
    have hk6 : t.kind = 1 ∨ t.kind = 2 ∨ t.kind = 3 ∨ t.kind = 4 ∨ t.kind = 5 ∨ (t.kind < 1 ∨ 5 < t.kind) := by omega
    rcases hk6 with h | h | h | h | h | h
    iterate 5
      · (repeat refine EvC.seq ?_); refine EvC.reg ?_; simp (config := { maxSteps := 2000000 }) (disch := first | omega | rfl) only [sA, Nat.reduceEqDiff, if_true, if_false, g3, g4, g5, g6, g7, h, Int.reduceBEq, Bool.not_true, Bool.not_false, Bool.false_eq_true]
        refine EvC.condF (by simp only [sA, Nat.reduceEqDiff, if_true, if_false]) (EvC.skip ?_)
        try simp (config := { maxSteps := 2000000 }) (disch := first | omega | rfl) only [thenC_normal]
        exact ⟨by omega, _, rfl, by simp only [Tr.get_put, Nat.reduceEqDiff, if_false, g1], by simp only [Tr.get_put, Nat.reduceEqDiff, if_false, g3, h, Int.reduceBEq], by simp only [Tr.get_put, Nat.reduceEqDiff, if_false, g4, h, Int.reduceBEq], by simp only [Tr.get_put, Nat.reduceEqDiff, if_false, g5, h, Int.reduceBEq], by simp only [Tr.get_put, Nat.reduceEqDiff, if_false, g6, h, Int.reduceBEq], by simp only [Tr.get_put, Nat.reduceEqDiff, if_false, g7, h, Int.reduceBEq]⟩
    · have q1 : (t.kind == 1) = false := by simp; omega
      have q2 : (t.kind == 2) = false := by simp; omega
      have q3 : (t.kind == 3) = false := by simp; omega
      have q4 : (t.kind == 4) = false := by simp; omega
      have q5 : (t.kind == 5) = false := by simp; omega
      (repeat refine EvC.seq ?_); refine EvC.reg ?_; simp (config := { maxSteps := 2000000 }) (disch := first | omega | rfl) only [sA, Nat.reduceEqDiff, if_true, if_false, g3, g4, g5, g6, g7, q1, q2, q3, q4, q5, Bool.not_false]
      refine EvC.condT (by simp only [sA, Nat.reduceEqDiff, if_true, if_false]) ?_
      (repeat refine EvC.seq ?_); refine EvC.reg ?_; simp (config := { maxSteps := 2000000 }) (disch := first | omega | rfl) only [sA]
      refine EvC.ret ?_
      try simp (config := { maxSteps := 2000000 }) (disch := first | omega | rfl) only [thenC_ret]
      exact leave_one rfl (by simp only [Tr.get_put, Nat.reduceEqDiff, if_true, if_false]; rfl) ⟨by rw [nodeE, if_pos h], hx⟩
    -- ]
  rintro st ⟨⟨hk1, hk5⟩, tm1, rfl, f1, f3, f4, f5, f6, f7⟩
  clear g1 g3 g4 g5 g6 g7 tm
  have hno : ¬ (t.kind < 1 ∨ 5 < t.kind) := by omega
  try simp (config := { maxSteps := 2000000 }) (disch := first | omega | rfl) only [thenC_normal]
  -- the fields that are not used
  refine EvC.seq ?_
  refine EvC.join (fun st => blankB t = true ∧ ∃ tm, st = ⟨tm, [], H.new (some (Blk.row [Value.int IntKind.i64 t.kind, Value.string t.name, Value.string t.num, Value.int IntKind.u64 t.bits, Value.int IntKind.i64 t.var, Value.slice a t.args.length c] 26))⟩ ∧ tm.get 1 = some (.pointer (some ⟨H.next, 0, none⟩)) ∧ tm.get 3 = some (.bool (t.kind == 2)) ∧ tm.get 4 = some (.bool (t.kind == 5)) ∧ tm.get 5 = some (.bool (t.kind == 3)) ∧ tm.get 6 = some (.bool (t.kind == 4)) ∧ tm.get 7 = some (.bool (t.kind == 1))) ?_ ?_
  · -- [
    refine EvC.seq (EvC.reg ?_)
    refine EL.join 11 (fun tm => tm.get 54 = some (.bool (!(t.name.toList == []) && (!(t.kind == 2) && !(t.kind == 5)))) ∧ tm.get 1 = some (.pointer (some ⟨H.next, 0, none⟩)) ∧ tm.get 3 = some (.bool (t.kind == 2)) ∧ tm.get 4 = some (.bool (t.kind == 5)) ∧ tm.get 5 = some (.bool (t.kind == 3)) ∧ tm.get 6 = some (.bool (t.kind == 4)) ∧ tm.get 7 = some (.bool (t.kind == 1))) ?_ ?_
    · cases h1 : (t.name.toList == []) <;> cases h2 : (t.kind == 2) <;> cases h3 : (t.kind == 5)
      all_goals
        try simp (config := { maxSteps := 2000000 }) (disch := first | omega | rfl) only [sA, Nat.reduceEqDiff, if_true, if_false, cutC, dBin_neqS, f1, f3, f4, f5, f6, f7, h1, h2, h3, dFieldAddr_at fld26_1 one9, dLoad_one agg9, toList_empty, Bool.not_true, Bool.not_false, Bool.false_eq_true, Bool.and_true, Bool.and_false]
    clear f1 f3 f4 f5 f6 f7
    rintro tm2 ⟨g, f1, f3, f4, f5, f6, f7⟩
    obtain ⟨x0, hy0⟩ : ∃ x, x = (!(t.name.toList == []) && (!(t.kind == 2) && !(t.kind == 5))) := ⟨_, rfl⟩
    rw [← hy0] at g
    refine EL.join 9 (fun tm => tm.get 63 = some (.bool (x0 || (!(t.num.toList == []) && !(t.kind == 3)))) ∧ tm.get 1 = some (.pointer (some ⟨H.next, 0, none⟩)) ∧ tm.get 3 = some (.bool (t.kind == 2)) ∧ tm.get 4 = some (.bool (t.kind == 5)) ∧ tm.get 5 = some (.bool (t.kind == 3)) ∧ tm.get 6 = some (.bool (t.kind == 4)) ∧ tm.get 7 = some (.bool (t.kind == 1))) ?_ ?_
    · clear hy0; cases h1 : (t.num.toList == []) <;> cases h2 : (t.kind == 3) <;> cases x0
      all_goals
        try simp (config := { maxSteps := 2000000 }) (disch := first | omega | rfl) only [sA, Nat.reduceEqDiff, if_true, if_false, cutC, dBin_neqS, g, f1, f3, f4, f5, f6, f7, h1, h2, dFieldAddr_at fld26_2 one9, dLoad_one agg9, toList_empty, Bool.not_true, Bool.not_false, Bool.false_eq_true, Bool.and_true, Bool.and_false, Bool.or_false, Bool.or_true]
    clear f1 f3 f4 f5 f6 f7 g
    rintro tm3 ⟨g, f1, f3, f4, f5, f6, f7⟩
    obtain ⟨x1, hx1⟩ : ∃ x, x = (x0 || (!(t.num.toList == []) && !(t.kind == 3))) := ⟨_, rfl⟩
    rw [← hx1] at g
    refine EL.join 9 (fun tm => tm.get 72 = some (.bool (x1 || (!(t.bits == 0) && !(t.kind == 4)))) ∧ tm.get 1 = some (.pointer (some ⟨H.next, 0, none⟩)) ∧ tm.get 3 = some (.bool (t.kind == 2)) ∧ tm.get 4 = some (.bool (t.kind == 5)) ∧ tm.get 5 = some (.bool (t.kind == 3)) ∧ tm.get 6 = some (.bool (t.kind == 4)) ∧ tm.get 7 = some (.bool (t.kind == 1))) ?_ ?_
    · clear hx1; cases h1 : (t.bits == 0) <;> cases h2 : (t.kind == 4) <;> cases x1
      all_goals
        try simp (config := { maxSteps := 2000000 }) (disch := first | omega | rfl) only [sA, Nat.reduceEqDiff, if_true, if_false, cutC, g, f1, f3, f4, f5, f6, f7, h1, h2, dFieldAddr_at fld26_3 one23, dLoad_one agg23, Bool.not_true, Bool.not_false, Bool.false_eq_true, bne, Bool.and_true, Bool.and_false, Bool.or_false, Bool.or_true]
    clear f1 f3 f4 f5 f6 f7 g
    rintro tm4 ⟨g, f1, f3, f4, f5, f6, f7⟩
    obtain ⟨x2, hx2⟩ : ∃ x, x = (x1 || (!(t.bits == 0) && !(t.kind == 4))) := ⟨_, rfl⟩
    rw [← hx2] at g
    refine EL.join 9 (fun tm => tm.get 81 = some (.bool (x2 || (!(t.var == 0) && !(t.kind == 1)))) ∧ tm.get 1 = some (.pointer (some ⟨H.next, 0, none⟩)) ∧ tm.get 3 = some (.bool (t.kind == 2)) ∧ tm.get 4 = some (.bool (t.kind == 5)) ∧ tm.get 5 = some (.bool (t.kind == 3)) ∧ tm.get 6 = some (.bool (t.kind == 4)) ∧ tm.get 7 = some (.bool (t.kind == 1))) ?_ ?_
    · clear hx2; cases h1 : (t.var == 0) <;> cases h2 : (t.kind == 1) <;> cases x2
      all_goals
        try simp (config := { maxSteps := 2000000 }) (disch := first | omega | rfl) only [sA, Nat.reduceEqDiff, if_true, if_false, cutC, g, f1, f3, f4, f5, f6, f7, h1, h2, dFieldAddr_at fld26_4 one3, dLoad_one agg3, Bool.not_true, Bool.not_false, Bool.false_eq_true, bne, Bool.and_true, Bool.and_false, Bool.or_false, Bool.or_true]
    clear f1 f3 f4 f5 f6 f7 g
    rintro tm5 ⟨g, f1, f3, f4, f5, f6, f7⟩
    obtain ⟨x3, hx3⟩ : ∃ x, x = (x2 || (!(t.var == 0) && !(t.kind == 1))) := ⟨_, rfl⟩
    rw [← hx3] at g
    refine EL.join 10 (fun tm => tm.get 91 = some (.bool (x3 || (decide ((t.args.length : Int) > 0) && !(t.kind == 5)))) ∧ tm.get 1 = some (.pointer (some ⟨H.next, 0, none⟩)) ∧ tm.get 3 = some (.bool (t.kind == 2)) ∧ tm.get 4 = some (.bool (t.kind == 5)) ∧ tm.get 5 = some (.bool (t.kind == 3)) ∧ tm.get 6 = some (.bool (t.kind == 4)) ∧ tm.get 7 = some (.bool (t.kind == 1))) ?_ ?_
    · clear hx3; cases h1 : decide ((t.args.length : Int) > 0) <;> cases h2 : (t.kind == 5) <;> cases x3
      all_goals
        try simp (config := { maxSteps := 2000000 }) (disch := first | omega | rfl) only [sA, Nat.reduceEqDiff, if_true, if_false, cutC, g, f1, f3, f4, f5, f6, f7, h1, h2, dFieldAddr_at fld26_5 one24, dLoad_one agg24, dLn_slice Tryd.underlying24, Bool.not_true, Bool.not_false, Bool.false_eq_true, Bool.and_true, Bool.and_false, Bool.or_false, Bool.or_true]
    clear f1 f3 f4 f5 f6 f7 g
    rintro tm6 ⟨g, f1, f3, f4, f5, f6, f7⟩
    obtain ⟨x4, hx4⟩ : ∃ x, x = (x3 || (decide ((t.args.length : Int) > 0) && !(t.kind == 5))) := ⟨_, rfl⟩
    rw [← hx4] at g
    try simp (config := { maxSteps := 2000000 }) (disch := first | omega | rfl) only [sA]
    have hb : blankB t = !x4 := by
      have hgt : ((t.args.length : Int) == 0) = !decide ((t.args.length : Int) > 0) := by
        rw [Bool.eq_iff_iff]; simp
      rw [hx4, hx3, hx2, hx1, hy0]
      unfold blankB isE
      rw [hgt]
      cases (t.name.toList == []) <;> cases (t.num.toList == []) <;> cases (t.bits == 0) <;> cases (t.var == 0) <;> cases decide ((t.args.length : Int) > 0) <;> cases (t.kind == 1) <;> cases (t.kind == 2) <;> cases (t.kind == 3) <;> cases (t.kind == 4) <;> cases (t.kind == 5) <;> rfl
    cases x4 with
    | true =>
      refine EvC.condT (by simp only [sA, g]) ?_
      (repeat refine EvC.seq ?_); refine EvC.reg ?_; simp (config := { maxSteps := 2000000 }) (disch := first | omega | rfl) only [sA]
      refine EvC.ret ?_
      try simp (config := { maxSteps := 2000000 }) (disch := first | omega | rfl) only [thenC_ret]
      exact leave_one rfl (by simp only [Tr.get_put, if_true]; rfl) ⟨by rw [nodeE, if_neg hno, if_pos (show blankB t = false from hb)], hx⟩
    | false =>
      refine EvC.condF (by simp only [sA, g]) (EvC.skip ?_)
      try simp (config := { maxSteps := 2000000 }) (disch := first | omega | rfl) only [thenC_normal]
      exact ⟨hb, _, rfl, f1, f3, f4, f5, f6, f7⟩
    -- ]
  rintro st ⟨hbl, tm, rfl, f1, f3, f4, f5, f6, f7⟩
  try simp (config := { maxSteps := 2000000 }) (disch := first | omega | rfl) only [thenC_normal]
  -- the bounds
  refine EvC.seq ?_
  refine EvC.join (fun st => bndB t = false ∧ ∃ tm, st = ⟨tm, [], H.new (some (Blk.row [Value.int IntKind.i64 t.kind, Value.string t.name, Value.string t.num, Value.int IntKind.u64 t.bits, Value.int IntKind.i64 t.var, Value.slice a t.args.length c] 26))⟩ ∧ tm.get 1 = some (.pointer (some ⟨H.next, 0, none⟩)) ∧ tm.get 3 = some (.bool (t.kind == 2)) ∧ tm.get 4 = some (.bool (t.kind == 5)) ∧ tm.get 5 = some (.bool (t.kind == 3)) ∧ tm.get 6 = some (.bool (t.kind == 4)) ∧ tm.get 7 = some (.bool (t.kind == 1))) ?_ ?_
  · -- [
    refine EvC.seq (EvC.reg ?_)
    cases h1 : decide (t.var < 0) <;> cases h2 : (t.kind == 5) <;> cases h3 : ((t.args.length : Int) == 0) <;> cases h4 : decide ((t.args.length : Int) > 64)
    all_goals
      try simp (config := { maxSteps := 2000000 }) (disch := first | omega | rfl) only [sA, Nat.reduceEqDiff, if_true, if_false, cutC, f1, f4, h1, h2, h3, h4, dFieldAddr_at fld26_4 one3, dFieldAddr_at fld26_5 one24, dLoad_one agg3, dLoad_one agg24, dLn_slice Tryd.underlying24, Bool.false_eq_true]
    all_goals
      first
      | (have hb : bndB t = true := by unfold bndB; rw [h1, h2, h3, h4]; rfl
         refine EvC.condT (by simp only [sA, Nat.reduceEqDiff, if_true, if_false]; done) ?_
         (repeat refine EvC.seq ?_); refine EvC.reg ?_; simp (config := { maxSteps := 2000000 }) (disch := first | omega | rfl) only [sA]
         refine EvC.ret ?_
         try simp (config := { maxSteps := 2000000 }) (disch := first | omega | rfl) only [thenC_ret]
         exact leave_one rfl (by simp only [Tr.get_put, Nat.reduceEqDiff, if_true, if_false]; rfl) ⟨by rw [nodeE_bnd hno hbl hb], hx⟩)
      | (have hb : bndB t = false := by unfold bndB; rw [h1, h2, h3, h4]; rfl
         refine EvC.condF (by simp only [sA, Nat.reduceEqDiff, if_true, if_false]; done) (EvC.skip ?_)
         try simp (config := { maxSteps := 2000000 }) (disch := first | omega | rfl) only [thenC_normal]
         exact ⟨hb, _, rfl, by simp only [Tr.get_put, Nat.reduceEqDiff, if_false]; exact f1, by simp only [Tr.get_put, Nat.reduceEqDiff, if_false]; exact f3, by simp only [Tr.get_put, Nat.reduceEqDiff, if_false, f4, h2], by simp only [Tr.get_put, Nat.reduceEqDiff, if_false]; exact f5, by simp only [Tr.get_put, Nat.reduceEqDiff, if_false]; exact f6, by simp only [Tr.get_put, Nat.reduceEqDiff, if_false]; exact f7⟩)
    -- ]
  rintro st ⟨hbd, tm, rfl, f1, f3, f4, f5, f6, f7⟩
  try simp (config := { maxSteps := 2000000 }) (disch := first | omega | rfl) only [thenC_normal]
  have hne := nodeE_rest (utf := utf) (num := num) (flt := flt) hno hbl hbd
  -- the name
  (repeat refine EvC.seq ?_); refine EvC.reg ?_; simp (config := { maxSteps := 2000000 }) (disch := first | omega | rfl) only [sA, Nat.reduceEqDiff, if_true, if_false, cutC, f1, dFieldAddr_at fld26_1 one9, dLoad_one agg9, dop_call call105]
  refine (hU t.name _ b2 hx.wf).mono ?_
  rintro v H2 ⟨rfl, hx2⟩
  have hxx := hx.trans hx2
  have hb2 : H2.get H.next = some (Blk.row [Value.int IntKind.i64 t.kind, Value.string t.name, Value.string t.num, Value.int IntKind.u64 t.bits, Value.int IntKind.i64 t.var, Value.slice a t.args.length c] 26) := by rw [hx2.keep _ (Nat.lt_succ_self _), Heap.get_new, if_pos rfl]
  have l1 : H2.load ⟨H.next, 1, none⟩ 1 = some [.string t.name] := by simp only [Heap.load, Heap.cells, hb2]; rfl
  have l2 : H2.load ⟨H.next, 2, none⟩ 1 = some [.string t.num] := by simp only [Heap.load, Heap.cells, hb2]; rfl
  have l3 : H2.load ⟨H.next, 3, none⟩ 1 = some [.int .u64 t.bits] := by simp only [Heap.load, Heap.cells, hb2]; rfl
  try simp (config := { maxSteps := 2000000 }) (disch := first | omega | rfl) only []
  refine EvC.frame (fun tm => tm.get 8 = some (.bool (utf t.name)) ∧ tm.get 1 = some (.pointer (some ⟨H.next, 0, none⟩)) ∧ tm.get 3 = some (.bool (t.kind == 2)) ∧ tm.get 4 = some (.bool (t.kind == 5)) ∧ tm.get 5 = some (.bool (t.kind == 3)) ∧ tm.get 6 = some (.bool (t.kind == 4)) ∧ tm.get 7 = some (.bool (t.kind == 1))) ⟨by simp only [Tr.get_put, Nat.reduceEqDiff, if_true, if_false], by simp only [Tr.get_put, Nat.reduceEqDiff, if_false]; exact f1, by simp only [Tr.get_put, Nat.reduceEqDiff, if_false]; exact f3, by simp only [Tr.get_put, Nat.reduceEqDiff, if_false]; exact f4, by simp only [Tr.get_put, Nat.reduceEqDiff, if_false]; exact f5, by simp only [Tr.get_put, Nat.reduceEqDiff, if_false]; exact f6, by simp only [Tr.get_put, Nat.reduceEqDiff, if_false]; exact f7⟩ ?_
  clear f1 f3 f4 f5 f6 f7
  rintro tm ⟨f8, f1, f3, f4, f5, f6, f7⟩
  cases hu : utf t.name with
  | false =>
    rw [hu] at f8
    (repeat refine EvC.seq ?_); refine EvC.reg ?_; simp (config := { maxSteps := 2000000 }) (disch := first | omega | rfl) only [sA, Nat.reduceEqDiff, if_true, if_false, f8, Bool.not_false]
    refine EvC.condT (by simp only [sA, Nat.reduceEqDiff, if_true, if_false]) ?_
    (repeat refine EvC.seq ?_); refine EvC.reg ?_; simp (config := { maxSteps := 2000000 }) (disch := first | omega | rfl) only [sA]
    refine EvC.ret ?_
    try simp (config := { maxSteps := 2000000 }) (disch := first | omega | rfl) only [thenC_ret]
    exact leave_one rfl (by simp only [Tr.get_put, Nat.reduceEqDiff, if_true, if_false]; rfl) ⟨by rw [hne, if_pos hu], hxx⟩
  | true =>
  rw [hu] at f8
  rw [if_neg (by rw [hu]; simp)] at hne
  by_cases hlen : 1000 < t.name.size
  · have hd : decide ((t.name.size : Int) > 1000) = true := decide_eq_true (by omega)
    (repeat refine EvC.seq ?_); refine EvC.reg ?_; simp (config := { maxSteps := 2000000 }) (disch := first | omega | rfl) only [sA, Nat.reduceEqDiff, if_true, if_false, f8, f1, l1, hd, dFieldAddr_at fld26_1 one9, dLoad_one agg9, dLn_string Tryd.underlying9, Bool.not_true, Bool.false_eq_true]
    refine EvC.condT (by simp only [sA, Nat.reduceEqDiff, if_true, if_false]) ?_
    (repeat refine EvC.seq ?_); refine EvC.reg ?_; simp (config := { maxSteps := 2000000 }) (disch := first | omega | rfl) only [sA]
    refine EvC.ret ?_
    try simp (config := { maxSteps := 2000000 }) (disch := first | omega | rfl) only [thenC_ret]
    exact leave_one rfl (by simp only [Tr.get_put, Nat.reduceEqDiff, if_true, if_false]; rfl) ⟨by rw [hne, if_pos hlen], hxx⟩
  rw [if_neg hlen] at hne
  have hd : decide ((t.name.size : Int) > 1000) = false := decide_eq_false (by omega)
  (repeat refine EvC.seq ?_); refine EvC.reg ?_; simp (config := { maxSteps := 2000000 }) (disch := first | omega | rfl) only [sA, Nat.reduceEqDiff, if_true, if_false, f8, f1, l1, hd, dFieldAddr_at fld26_1 one9, dLoad_one agg9, dLn_string Tryd.underlying9, Bool.not_true, Bool.false_eq_true]
  refine EvC.condF (by simp only [sA, Nat.reduceEqDiff, if_true, if_false]) (EvC.skip ?_)
  try simp (config := { maxSteps := 2000000 }) (disch := first | omega | rfl) only [thenC_normal]
  refine EvC.frame (fun tm => tm.get 1 = some (.pointer (some ⟨H.next, 0, none⟩)) ∧ tm.get 3 = some (.bool (t.kind == 2)) ∧ tm.get 4 = some (.bool (t.kind == 5)) ∧ tm.get 5 = some (.bool (t.kind == 3)) ∧ tm.get 6 = some (.bool (t.kind == 4)) ∧ tm.get 7 = some (.bool (t.kind == 1))) ⟨by simp only [Tr.get_put, Nat.reduceEqDiff, if_false]; exact f1, by simp only [Tr.get_put, Nat.reduceEqDiff, if_false]; exact f3, by simp only [Tr.get_put, Nat.reduceEqDiff, if_false]; exact f4, by simp only [Tr.get_put, Nat.reduceEqDiff, if_false]; exact f5, by simp only [Tr.get_put, Nat.reduceEqDiff, if_false]; exact f6, by simp only [Tr.get_put, Nat.reduceEqDiff, if_false]; exact f7⟩ ?_
  clear f1 f3 f4 f5 f6 f7 f8
  rintro tm ⟨f1, f3, f4, f5, f6, f7⟩
  -- an integer
  by_cases k3 : t.kind = 3
  · have q3 : (t.kind == 3) = true := by simp [k3]
    have q4 : (t.kind == 4) = false := by simp [k3]
    rw [q3] at f5
    rw [q4] at f6
    (repeat refine EvC.seq ?_); refine EvC.reg ?_; simp (config := { maxSteps := 2000000 }) (disch := first | omega | rfl) only [sA, f5]
    refine EvC.condT (by simp only [sA, if_true]) ?_
    (repeat refine EvC.seq ?_); refine EvC.reg ?_; simp (config := { maxSteps := 2000000 }) (disch := first | omega | rfl) only [sA, Nat.reduceEqDiff, if_true, if_false, f1, l2, dFieldAddr_at fld26_2 one9, dLoad_one agg9, dop_call call106]
    refine (hN t.num _ b3 hx2.wf).mono ?_
    rintro v H3 ⟨rfl, hx3⟩
    try simp (config := { maxSteps := 2000000 }) (disch := first | omega | rfl) only []
    (repeat refine EvC.seq ?_); refine EvC.reg ?_; simp (config := { maxSteps := 2000000 }) (disch := first | omega | rfl) only [sA, Nat.reduceEqDiff, if_true, if_false]
    cases hn : num t.num with
    | false =>
      refine EvC.condT (by simp only [sA, Nat.reduceEqDiff, if_true, if_false]; rfl) ?_
      (repeat refine EvC.seq ?_); refine EvC.reg ?_; simp (config := { maxSteps := 2000000 }) (disch := first | omega | rfl) only [sA]
      refine EvC.ret ?_
      try simp (config := { maxSteps := 2000000 }) (disch := first | omega | rfl) only [thenC_ret]
      exact leave_one rfl (by simp only [Tr.get_put, Nat.reduceEqDiff, if_true, if_false]; rfl) ⟨by rw [hne, if_pos ⟨k3, hn⟩], hxx.trans hx3⟩
    | true =>
      refine EvC.condF (by simp only [sA, Nat.reduceEqDiff, if_true, if_false]; rfl) (EvC.skip ?_)
      try simp (config := { maxSteps := 2000000 }) (disch := first | omega | rfl) only [thenC_normal]
      (repeat refine EvC.seq ?_); refine EvC.reg ?_; simp (config := { maxSteps := 2000000 }) (disch := first | omega | rfl) only [sA, Nat.reduceEqDiff, if_false, f6]
      refine EvC.condF (by simp only [sA, Nat.reduceEqDiff, if_true, if_false]) (EvC.skip ?_)
      try simp (config := { maxSteps := 2000000 }) (disch := first | omega | rfl) only [thenC_normal]
      (repeat refine EvC.seq ?_); refine EvC.reg ?_; simp (config := { maxSteps := 2000000 }) (disch := first | omega | rfl) only [sA]
      refine EvC.ret ?_
      try simp (config := { maxSteps := 2000000 }) (disch := first | omega | rfl) only []
      exact leave_one rfl (by simp only [Tr.get_put, Nat.reduceEqDiff, if_true, if_false]; rfl) ⟨by rw [hne, if_neg (by rw [hn]; simp), if_neg (by rw [k3]; simp)], hxx.trans hx3⟩
  have q3 : (t.kind == 3) = false := by simp [k3]
  rw [q3] at f5
  rw [if_neg (fun h => k3 h.1)] at hne
  (repeat refine EvC.seq ?_); refine EvC.reg ?_; simp (config := { maxSteps := 2000000 }) (disch := first | omega | rfl) only [sA, f5]
  refine EvC.condF (by simp only [sA, if_true]) (EvC.skip ?_)
  try simp (config := { maxSteps := 2000000 }) (disch := first | omega | rfl) only [thenC_normal]
  -- a float
  by_cases k4 : t.kind = 4
  · have q4 : (t.kind == 4) = true := by simp [k4]
    rw [q4] at f6
    (repeat refine EvC.seq ?_); refine EvC.reg ?_; simp (config := { maxSteps := 2000000 }) (disch := first | omega | rfl) only [sA, Nat.reduceEqDiff, if_false, f6]
    refine EvC.condT (by simp only [sA, Nat.reduceEqDiff, if_true, if_false]) ?_
    (repeat refine EvC.seq ?_); refine EvC.reg ?_; simp (config := { maxSteps := 2000000 }) (disch := first | omega | rfl) only [sA, Nat.reduceEqDiff, if_true, if_false, f1, l3, dFieldAddr_at fld26_3 one23, dLoad_one agg23, dop_call call107]
    refine (hF t.bits _ b4 hx2.wf).mono ?_
    rintro v H3 ⟨rfl, hx3⟩
    try simp (config := { maxSteps := 2000000 }) (disch := first | omega | rfl) only []
    (repeat refine EvC.seq ?_); refine EvC.reg ?_; simp (config := { maxSteps := 2000000 }) (disch := first | omega | rfl) only [sA, Nat.reduceEqDiff, if_true, if_false]
    cases hn : flt t.bits with
    | false =>
      refine EvC.condT (by simp only [sA, Nat.reduceEqDiff, if_true, if_false]; rfl) ?_
      (repeat refine EvC.seq ?_); refine EvC.reg ?_; simp (config := { maxSteps := 2000000 }) (disch := first | omega | rfl) only [sA]
      refine EvC.ret ?_
      try simp (config := { maxSteps := 2000000 }) (disch := first | omega | rfl) only [thenC_ret]
      exact leave_one rfl (by simp only [Tr.get_put, Nat.reduceEqDiff, if_true, if_false]; rfl) ⟨by rw [hne, if_pos ⟨k4, hn⟩], hxx.trans hx3⟩
    | true =>
      refine EvC.condF (by simp only [sA, Nat.reduceEqDiff, if_true, if_false]; rfl) (EvC.skip ?_)
      try simp (config := { maxSteps := 2000000 }) (disch := first | omega | rfl) only [thenC_normal]
      (repeat refine EvC.seq ?_); refine EvC.reg ?_; simp (config := { maxSteps := 2000000 }) (disch := first | omega | rfl) only [sA]
      refine EvC.ret ?_
      try simp (config := { maxSteps := 2000000 }) (disch := first | omega | rfl) only []
      exact leave_one rfl (by simp only [Tr.get_put, Nat.reduceEqDiff, if_true, if_false]; rfl) ⟨by rw [hne, if_neg (by rw [hn]; simp)], hxx.trans hx3⟩
  have q4 : (t.kind == 4) = false := by simp [k4]
  rw [q4] at f6
  (repeat refine EvC.seq ?_); refine EvC.reg ?_; simp (config := { maxSteps := 2000000 }) (disch := first | omega | rfl) only [sA, Nat.reduceEqDiff, if_false, f6]
  refine EvC.condF (by simp only [sA, Nat.reduceEqDiff, if_true, if_false]) (EvC.skip ?_)
  try simp (config := { maxSteps := 2000000 }) (disch := first | omega | rfl) only [thenC_normal]
  (repeat refine EvC.seq ?_); refine EvC.reg ?_; simp (config := { maxSteps := 2000000 }) (disch := first | omega | rfl) only [sA]
  refine EvC.ret ?_
  try simp (config := { maxSteps := 2000000 }) (disch := first | omega | rfl) only []
  exact leave_one rfl (by simp only [Tr.get_put, Nat.reduceEqDiff, if_true, if_false]; rfl) ⟨by rw [hne, if_neg (fun h => k4 h.1)], hxx⟩
end Go.Proofs.YtlllbkjiadcloaaDoor.hb
end

-- W5a
section
/- math.Float64frombits, a function without a body. -/
namespace Go.Proofs.YtlllbkjiadcloaaDoor.hb
open Go Go.RowKit Go.Hb

def rho0 (n : Int) : Operand → Value
  | .func f => .func (.func f) #[] #[]
  | _ => .int .u64 n
theorem frombits_run (n : Int) (d : Option Tmp) (k : Tmp) (ats : Array TypeId) (ty : TypeId) (pos : String) (af : Array Edge) (g : Option (Nat × Bool)) :
    pureRun Tryd.prog (execOp (rho0 n) ⟨d, .call ⟨.value (.func 89), #[.tmp k], ats⟩, ty, pos, af, g⟩) = some (.value (.float .f64 n.toNat)) := by kernel_rfl
theorem nocall89 (l : List Value) : dcall1 Tryd.prog 89 l = none := by
  unfold dcall1
  rw [Tryd.func89]
  rfl
theorem dop_frombits {d : Option Tmp} {k : Tmp} {ats : Array TypeId} {ty : TypeId} {pos : String} {af : Array Edge} {g : Option (Nat × Bool)} {tm : Tr Value} {H : Heap} {n : Int} (hv : tm.get k = some (.int .u64 n)) :
    dop Tryd.prog ⟨d, .call ⟨.value (.func 89), #[.tmp k], ats⟩, ty, pos, af, g⟩ (ev tm) H = some (.val (.float .f64 n.toNat) H) := by
  have hρ : ∀ y ∈ (⟨d, .call ⟨.value (.func 89), #[.tmp k], ats⟩, ty, pos, af, g⟩ : Oper).op.operands, ev tm y = rho0 n y := by
    intro y hy
    simp [Op.operands, Call.operands] at hy
    rcases hy with rfl | rfl
    · rfl
    · show (tm.get k).getD junk = _
      rw [hv]; rfl
  have e : dop Tryd.prog ⟨d, .call ⟨.value (.func 89), #[.tmp k], ats⟩, ty, pos, af, g⟩ (ev tm) H = dflat Tryd.prog ⟨d, .call ⟨.value (.func 89), #[.tmp k], ats⟩, ty, pos, af, g⟩ (ev tm) H := by
    simp only [dop, ev, nocall89]
  have hf : allFlat (ev tm) (⟨d, .call ⟨.value (.func 89), #[.tmp k], ats⟩, ty, pos, af, g⟩ : Oper) = true := by
    unfold allFlat
    rw [List.all_eq_true]
    intro y hy
    rw [hρ y (Array.mem_toList_iff.1 hy)]
    simp [Op.operands, Call.operands] at hy
    rcases hy with rfl | rfl <;> rfl
  rw [e]
  unfold dflat
  rw [hf, execOp_congr _ (by intro cs b h; cases h) hρ, frombits_run]
  rfl
end Go.Proofs.YtlllbkjiadcloaaDoor.hb
end

-- W5
section
/- A node by itself: the program's 'node'. -/
namespace Go.Proofs.YtlllbkjiadcloaaDoor.hb
open Go Go.RowKit Go.Hb

/-- a float's bits, as the program looks at them: by three calls -/
def TellsN (ok : Ok) (f g h : FuncId) (fn fi : Int → Bool) : Prop := ∀ (n : Int) (H : Heap) , u64 n → H.wf → EvF Tryd.prog ok g [.float .f64 n.toNat] H (fun v H' => v = .bool (fn n) ∧ HX H H') ∧ EvF Tryd.prog ok h [.float .f64 n.toNat, .int .i64 0] H (fun v H' => v = .bool (fi n) ∧ HX H H')

theorem call103 : callable Tryd.prog 103 = true := by kernel_rfl
theorem call104 : callable Tryd.prog 104 = true := by kernel_rfl

variable {ok : Ok}
set_option maxRecDepth 10000 in
set_option maxHeartbeats 8000000 in
theorem node_ev {utf num : ByteArray → Bool} {fn fi : Int → Bool} (hk : ∀ args H, ok.K 84 args H = none) (hm : ok.testBit 84 = true) (hk2 : ∀ args H, ok.K 100 args H = none) (hm2 : ok.testBit 100 = true)
    (hU : TellsS ok 101 utf) (hN : TellsS ok 102 num) (hF : TellsN ok 89 103 104 fn fi)
    {t : Tm} {cs : List Value} {H : Heap} (r : RepT H t cs) (hw : H.wf) : EvF Tryd.prog ok 84 [.agg ⟨cs⟩] H fun v H' => v = .int .i64 (nodeE utf num (fun n => !(fn n || fi n || n == 9223372036854775808)) t) ∧ HX H H' := by
  have rr := r
  obtain ⟨a, c, cells, rfl, b1, b2, b3, b4, b5, rl⟩ := r.inv
  have hx := (HX.refl hw).new (some (Blk.row [Value.int IntKind.i64 t.kind, Value.string t.name, Value.string t.num, Value.int IntKind.u64 t.bits, Value.int IntKind.i64 t.var, Value.slice a t.args.length c] 26))
  refine EvF.enter (hk _ _) Tryd.func84 hm rfl ?_
  (repeat refine EvC.seq ?_); refine EvC.reg ?_; simp (config := { maxSteps := 2000000 }) (disch := first | omega | rfl) only [sA, initTm, dBox, Value.cells, one, if_true]
  (repeat refine EvC.seq ?_); refine EvC.block ?_
  -- the kind
  refine EvC.seq (EvC.reg ?_)
  by_cases hno : t.kind < 1 ∨ 5 < t.kind
  · have hlt : decide (t.kind < 1) = true ∨ (decide (t.kind < 1) = false ∧ decide (t.kind > 5) = true) := by
      by_cases h : t.kind < 1
      · exact .inl (by simp [h])
      · exact .inr ⟨by simp [h], by simp; omega⟩
    rcases hlt with h | ⟨h, h'⟩
    · try simp (config := { maxSteps := 2000000 }) (disch := first | omega | rfl) only [sA, Nat.reduceEqDiff, reduceCtorEq, if_true, if_false, cutC, h, dFieldAddr_at fld26_0 one3, dLoad_one agg3]
      refine EvC.condT (by simp only [sA, Nat.reduceEqDiff, reduceCtorEq, if_true, if_false]) ?_
      (repeat refine EvC.seq ?_); refine EvC.reg ?_; simp (config := { maxSteps := 2000000 }) (disch := first | omega | rfl) only [sA]
      refine EvC.ret ?_
      try simp (config := { maxSteps := 2000000 }) (disch := first | omega | rfl) only [sA]
      exact leave_one rfl (by simp only [Tr.get_put, Nat.reduceEqDiff, reduceCtorEq, if_true, if_false]; rfl) ⟨by rw [nodeE, if_pos hno], hx⟩
    · try simp (config := { maxSteps := 2000000 }) (disch := first | omega | rfl) only [sA, Nat.reduceEqDiff, reduceCtorEq, if_true, if_false, cutC, h, h', dFieldAddr_at fld26_0 one3, dLoad_one agg3, Bool.false_eq_true]
      refine EvC.condT (by simp only [sA, Nat.reduceEqDiff, reduceCtorEq, if_true, if_false]) ?_
      (repeat refine EvC.seq ?_); refine EvC.reg ?_; simp (config := { maxSteps := 2000000 }) (disch := first | omega | rfl) only [sA]
      refine EvC.ret ?_
      try simp (config := { maxSteps := 2000000 }) (disch := first | omega | rfl) only [sA]
      exact leave_one rfl (by simp only [Tr.get_put, Nat.reduceEqDiff, reduceCtorEq, if_true, if_false]; rfl) ⟨by rw [nodeE, if_pos hno], hx⟩
  have q1 : decide (t.kind < 1) = false := by simp; omega
  have q2 : decide (t.kind > 5) = false := by simp; omega
  try simp (config := { maxSteps := 2000000 }) (disch := first | omega | rfl) only [sA, Nat.reduceEqDiff, Nat.reduceAdd, reduceCtorEq, if_true, if_false, cutC, q1, q2, dFieldAddr_at fld26_0 one3, dLoad_one agg3, Bool.false_eq_true, dLoad_agg agg26, cells26, dop_call call100]
  refine (blank_ev hk2 hm2 (rr.mono hx hw) hx.wf).mono ?_
  rintro v H2 ⟨rfl, hx2⟩
  have hxx := hx.trans hx2
  have hb2 : H2.get H.next = some (Blk.row [Value.int IntKind.i64 t.kind, Value.string t.name, Value.string t.num, Value.int IntKind.u64 t.bits, Value.int IntKind.i64 t.var, Value.slice a t.args.length c] 26) := by rw [hx2.keep _ (Nat.lt_succ_self _), Heap.get_new, if_pos rfl]
  have l0 : H2.load ⟨H.next, 0, none⟩ 1 = some [.int .i64 t.kind] := by simp only [Heap.load, Heap.cells, hb2]; rfl
  have l1 : H2.load ⟨H.next, 1, none⟩ 1 = some [.string t.name] := by simp only [Heap.load, Heap.cells, hb2]; rfl
  have l2 : H2.load ⟨H.next, 2, none⟩ 1 = some [.string t.num] := by simp only [Heap.load, Heap.cells, hb2]; rfl
  have l3 : H2.load ⟨H.next, 3, none⟩ 1 = some [.int .u64 t.bits] := by simp only [Heap.load, Heap.cells, hb2]; rfl
  have l4 : H2.load ⟨H.next, 4, none⟩ 1 = some [.int .i64 t.var] := by simp only [Heap.load, Heap.cells, hb2]; rfl
  have l5 : H2.load ⟨H.next, 5, none⟩ 1 = some [.slice a t.args.length c] := by simp only [Heap.load, Heap.cells, hb2]; rfl
  cases hbl : blankB t with
  | false =>
    try simp (config := { maxSteps := 2000000 }) (disch := first | omega | rfl) only [sA, Nat.reduceEqDiff, reduceCtorEq, if_true, if_false, Bool.not_false, Bool.false_eq_true]
    refine EvC.condT (by simp only [sA, Nat.reduceEqDiff, reduceCtorEq, if_true, if_false]) ?_
    (repeat refine EvC.seq ?_); refine EvC.reg ?_; simp (config := { maxSteps := 2000000 }) (disch := first | omega | rfl) only [sA]
    refine EvC.ret ?_
    try simp (config := { maxSteps := 2000000 }) (disch := first | omega | rfl) only [sA]
    exact leave_one rfl (by simp only [Tr.get_put, Nat.reduceEqDiff, reduceCtorEq, if_true, if_false]; rfl) ⟨by rw [nodeE, if_neg hno, if_pos hbl], hxx⟩
  | true =>
  by_cases hv : t.var < 0
  · have hd : decide (t.var < 0) = true := decide_eq_true hv
    try simp (config := { maxSteps := 2000000 }) (disch := first | omega | rfl) only [sA, Nat.reduceEqDiff, reduceCtorEq, if_true, if_false, l4, hd, dFieldAddr_at fld26_4 one3, dLoad_one agg3, Bool.not_true, Bool.false_eq_true]
    refine EvC.condT (by simp only [sA, Nat.reduceEqDiff, reduceCtorEq, if_true, if_false]) ?_
    (repeat refine EvC.seq ?_); refine EvC.reg ?_; simp (config := { maxSteps := 2000000 }) (disch := first | omega | rfl) only [sA]
    refine EvC.ret ?_
    try simp (config := { maxSteps := 2000000 }) (disch := first | omega | rfl) only [sA]
    exact leave_one rfl (by simp only [Tr.get_put, Nat.reduceEqDiff, reduceCtorEq, if_true, if_false]; rfl) ⟨by rw [nodeE_bnd hno hbl (by unfold bndB; rw [hd]; rfl)], hxx⟩
  have hd : decide (t.var < 0) = false := decide_eq_false hv
  try simp (config := { maxSteps := 2000000 }) (disch := first | omega | rfl) only [sA, Nat.reduceEqDiff, reduceCtorEq, if_true, if_false, l4, hd, dFieldAddr_at fld26_4 one3, dLoad_one agg3, Bool.not_true, Bool.false_eq_true]
  refine EvC.condF (by simp only [sA, Nat.reduceEqDiff, reduceCtorEq, if_true, if_false]) ?_
  refine EvC.frame (fun tm => tm.get 1 = some (.pointer (some ⟨H.next, 0, none⟩))) (by simp only [Tr.get_put, Nat.reduceEqDiff, reduceCtorEq, if_true, if_false]) ?_
  rintro tm g1
  -- the arguments
  refine EvC.seq ?_
  refine EvC.join (fun st => ∃ tm, st = ⟨tm, [], H2⟩ ∧ tm.get 1 = some (.pointer (some ⟨H.next, 0, none⟩)) ∧ tm.get 23 = some (.bool (t.kind == 5 && ((t.args.length : Int) == 0 || decide ((t.args.length : Int) > 64))))) ?_ ?_
  · refine EvC.reg ?_
    cases h2 : (t.kind == 5) <;> cases h3 : ((t.args.length : Int) == 0) <;> cases h4 : decide ((t.args.length : Int) > 64)
    all_goals
      try simp (config := { maxSteps := 2000000 }) (disch := first | omega | rfl) only [sA, Nat.reduceEqDiff, if_true, if_false, g1, l0, l5, h2, h3, h4, dFieldAddr_at fld26_0 one3, dFieldAddr_at fld26_5 one24, dLoad_one agg3, dLoad_one agg24, dLn_slice Tryd.underlying24, Bool.false_eq_true]
      exact ⟨_, rfl, by simp only [Tr.get_put, Nat.reduceEqDiff, if_false]; exact g1, by simp only [Tr.get_put, Nat.reduceEqDiff, if_true, if_false]; rfl⟩
  clear g1 tm
  rintro st ⟨tm, rfl, g1, g23⟩
  try simp (config := { maxSteps := 2000000 }) (disch := first | omega | rfl) only [thenC_normal]
  cases hbad : (t.kind == 5 && ((t.args.length : Int) == 0 || decide ((t.args.length : Int) > 64))) with
  | true =>
    rw [hbad] at g23
    refine EvC.condT (by simp only [sA, g23]) ?_
    (repeat refine EvC.seq ?_); refine EvC.reg ?_; simp (config := { maxSteps := 2000000 }) (disch := first | omega | rfl) only [sA]
    refine EvC.ret ?_
    try simp (config := { maxSteps := 2000000 }) (disch := first | omega | rfl) only [sA]
    exact leave_one rfl (by simp only [Tr.get_put, if_true]; rfl) ⟨by rw [nodeE_bnd hno hbl (by unfold bndB; rw [hd, hbad]; rfl)], hxx⟩
  | false =>
  rw [hbad] at g23
  have hne := nodeE_rest (utf := utf) (num := num) (flt := fun n => !(fn n || fi n || n == 9223372036854775808)) hno hbl (by unfold bndB; rw [hd, hbad]; rfl)
  refine EvC.condF (by simp only [sA, g23]) ?_
  -- the name
  (repeat refine EvC.seq ?_); refine EvC.reg ?_; simp (config := { maxSteps := 2000000 }) (disch := first | omega | rfl) only [sA, Nat.reduceEqDiff, if_true, if_false, g1, l1, dFieldAddr_at fld26_1 one9, dLoad_one agg9, dop_call call101]
  refine (hU t.name _ b2 hx2.wf).mono ?_
  rintro v H3 ⟨rfl, hx3⟩
  have hxx3 := hxx.trans hx3
  have hlt2 : H.next < H2.next := Nat.lt_of_lt_of_le (Nat.lt_succ_self _) hx2.next
  have hb3 : H3.get H.next = some (Blk.row [Value.int IntKind.i64 t.kind, Value.string t.name, Value.string t.num, Value.int IntKind.u64 t.bits, Value.int IntKind.i64 t.var, Value.slice a t.args.length c] 26) := by rw [hx3.keep _ hlt2]; exact hb2
  have m0 : H3.load ⟨H.next, 0, none⟩ 1 = some [.int .i64 t.kind] := by simp only [Heap.load, Heap.cells, hb3]; rfl
  have m1 : H3.load ⟨H.next, 1, none⟩ 1 = some [.string t.name] := by simp only [Heap.load, Heap.cells, hb3]; rfl
  have m2 : H3.load ⟨H.next, 2, none⟩ 1 = some [.string t.num] := by simp only [Heap.load, Heap.cells, hb3]; rfl
  have m3 : H3.load ⟨H.next, 3, none⟩ 1 = some [.int .u64 t.bits] := by simp only [Heap.load, Heap.cells, hb3]; rfl
  cases hu : utf t.name with
  | false =>
    try simp (config := { maxSteps := 2000000 }) (disch := first | omega | rfl) only [sA, Nat.reduceEqDiff, if_true, if_false, Bool.not_false]
    refine EvC.condT (by simp only [sA, Nat.reduceEqDiff, if_true, if_false]) ?_
    (repeat refine EvC.seq ?_); refine EvC.reg ?_; simp (config := { maxSteps := 2000000 }) (disch := first | omega | rfl) only [sA]
    refine EvC.ret ?_
    try simp (config := { maxSteps := 2000000 }) (disch := first | omega | rfl) only [sA]
    exact leave_one rfl (by simp only [Tr.get_put, Nat.reduceEqDiff, if_true, if_false]; rfl) ⟨by rw [hne, if_pos hu], hxx3⟩
  | true =>
  rw [if_neg (by rw [hu]; simp)] at hne
  by_cases hlen : 1000 < t.name.size
  · have hd : decide ((t.name.size : Int) > 1000) = true := decide_eq_true (by omega)
    try simp (config := { maxSteps := 2000000 }) (disch := first | omega | rfl) only [sA, Nat.reduceEqDiff, if_true, if_false, g1, m1, hd, dFieldAddr_at fld26_1 one9, dLoad_one agg9, dLn_string Tryd.underlying9, Bool.not_true, Bool.false_eq_true]
    refine EvC.condT (by simp only [sA, Nat.reduceEqDiff, if_true, if_false]) ?_
    (repeat refine EvC.seq ?_); refine EvC.reg ?_; simp (config := { maxSteps := 2000000 }) (disch := first | omega | rfl) only [sA]
    refine EvC.ret ?_
    try simp (config := { maxSteps := 2000000 }) (disch := first | omega | rfl) only [sA]
    exact leave_one rfl (by simp only [Tr.get_put, Nat.reduceEqDiff, if_true, if_false]; rfl) ⟨by rw [hne, if_pos hlen], hxx3⟩
  rw [if_neg hlen] at hne
  have hd2 : decide ((t.name.size : Int) > 1000) = false := decide_eq_false (by omega)
  try simp (config := { maxSteps := 2000000 }) (disch := first | omega | rfl) only [sA, Nat.reduceEqDiff, if_true, if_false, g1, m1, hd2, dFieldAddr_at fld26_1 one9, dLoad_one agg9, dLn_string Tryd.underlying9, Bool.not_true, Bool.false_eq_true]
  refine EvC.condF (by simp only [sA, Nat.reduceEqDiff, if_true, if_false]) ?_
  refine EvC.frame (fun tm => tm.get 1 = some (.pointer (some ⟨H.next, 0, none⟩))) (by simp only [Tr.get_put, Nat.reduceEqDiff, if_false]; exact g1) ?_
  clear g1 g23 tm
  rintro tm g1
  -- an integer
  refine EvC.seq (EvC.reg ?_)
  by_cases k3 : t.kind = 3
  · have q3 : (t.kind == 3) = true := by simp [k3]
    have q4 : (t.kind == 4) = false := by simp [k3]
    try simp (config := { maxSteps := 2000000 }) (disch := first | omega | rfl) only [sA, Nat.reduceEqDiff, if_true, if_false, g1, m0, m2, q3, dFieldAddr_at fld26_0 one3, dFieldAddr_at fld26_2 one9, dLoad_one agg9, dLoad_one agg3, dop_call call102]
    refine (hN t.num _ b3 hx3.wf).mono ?_
    rintro v H4 ⟨rfl, hx4⟩
    have hb4 : H4.get H.next = some (Blk.row [Value.int IntKind.i64 t.kind, Value.string t.name, Value.string t.num, Value.int IntKind.u64 t.bits, Value.int IntKind.i64 t.var, Value.slice a t.args.length c] 26) := by rw [hx4.keep _ (Nat.lt_of_lt_of_le hlt2 hx3.next)]; exact hb3
    have n0 : H4.load ⟨H.next, 0, none⟩ 1 = some [.int .i64 t.kind] := by simp only [Heap.load, Heap.cells, hb4]; rfl
    cases hn : num t.num with
    | false =>
      try simp (config := { maxSteps := 2000000 }) (disch := first | omega | rfl) only [sA, Nat.reduceEqDiff, if_true, if_false, Bool.not_false]
      refine EvC.condT (by simp only [sA, Nat.reduceEqDiff, if_true, if_false]) ?_
      (repeat refine EvC.seq ?_); refine EvC.reg ?_; simp (config := { maxSteps := 2000000 }) (disch := first | omega | rfl) only [sA]
      refine EvC.ret ?_
      try simp (config := { maxSteps := 2000000 }) (disch := first | omega | rfl) only [sA]
      exact leave_one rfl (by simp only [Tr.get_put, Nat.reduceEqDiff, if_true, if_false]; rfl) ⟨by rw [hne, if_pos ⟨k3, hn⟩], hxx3.trans hx4⟩
    | true =>
      try simp (config := { maxSteps := 2000000 }) (disch := first | omega | rfl) only [sA, Nat.reduceEqDiff, if_true, if_false, Bool.not_true]
      refine EvC.condF (by simp only [sA, Nat.reduceEqDiff, if_true, if_false]) (EvC.skip ?_)
      try simp (config := { maxSteps := 2000000 }) (disch := first | omega | rfl) only [sA]
      (repeat refine EvC.seq ?_); refine EvC.reg ?_; simp (config := { maxSteps := 2000000 }) (disch := first | omega | rfl) only [sA, Nat.reduceEqDiff, if_true, if_false, g1, n0, q4, dFieldAddr_at fld26_0 one3, dLoad_one agg3]
      refine EvC.condF (by simp only [sA, Nat.reduceEqDiff, if_true, if_false]) (EvC.skip ?_)
      try simp (config := { maxSteps := 2000000 }) (disch := first | omega | rfl) only [thenC_normal]
      (repeat refine EvC.seq ?_); refine EvC.reg ?_; simp (config := { maxSteps := 2000000 }) (disch := first | omega | rfl) only [sA]
      refine EvC.ret ?_
      try simp (config := { maxSteps := 2000000 }) (disch := first | omega | rfl) only []
      exact leave_one rfl (by simp only [Tr.get_put, Nat.reduceEqDiff, if_true, if_false]; rfl) ⟨by rw [hne, if_neg (by rw [hn]; simp), if_neg (by rw [k3]; simp)], hxx3.trans hx4⟩
  have q3 : (t.kind == 3) = false := by simp [k3]
  rw [if_neg (fun h => k3 h.1)] at hne
  try simp (config := { maxSteps := 2000000 }) (disch := first | omega | rfl) only [sA, Nat.reduceEqDiff, if_true, if_false, g1, m0, q3, dFieldAddr_at fld26_0 one3, dLoad_one agg3, Bool.false_eq_true]
  refine EvC.condF (by simp only [sA, Nat.reduceEqDiff, if_true, if_false]) (EvC.skip ?_)
  try simp (config := { maxSteps := 2000000 }) (disch := first | omega | rfl) only [sA]
  -- a float
  by_cases k4 : t.kind = 4
  · have q4 : (t.kind == 4) = true := by simp [k4]
    (repeat refine EvC.seq ?_); refine EvC.reg ?_; simp (config := { maxSteps := 2000000 }) (disch := first | omega | rfl) only [sA, Nat.reduceEqDiff, if_true, if_false, g1, m0, q4, dFieldAddr_at fld26_0 one3, dLoad_one agg3]
    refine EvC.condT (by simp only [sA, Nat.reduceEqDiff, if_true, if_false]) ?_
    (repeat refine EvC.seq ?_); refine EvC.reg ?_; simp (config := { maxSteps := 2000000 }) (disch := first | omega | rfl) only [sA, Nat.reduceEqDiff, if_true, if_false, g1, m3, dFieldAddr_at fld26_3 one23, dLoad_one agg23]
    rw [dop_frombits (n := t.bits) (by simp only [Tr.get_put, Nat.reduceEqDiff, if_true, if_false])]
    try simp (config := { maxSteps := 2000000 }) (disch := first | omega | rfl) only [sA, Nat.reduceEqDiff, if_true, if_false]
    refine EvC.frame (fun tm => tm.get 1 = some (.pointer (some ⟨H.next, 0, none⟩)) ∧ tm.get 3 = some (.float .f64 t.bits.toNat)) ⟨by simp only [Tr.get_put, Nat.reduceEqDiff, if_false]; exact g1, by simp only [Tr.get_put, Nat.reduceEqDiff, if_true, if_false]⟩ ?_
    clear g1 tm
    rintro tm ⟨g1, g3⟩
    (repeat refine EvC.seq ?_); refine EvC.reg ?_; simp (config := { maxSteps := 2000000 }) (disch := first | omega | rfl) only [sA, Nat.reduceEqDiff, if_true, if_false, g3, dop_call call103]
    refine (hF t.bits _ b4 hx3.wf).1.mono ?_
    rintro v H4 ⟨rfl, hx4⟩
    have hb4 : H4.get H.next = some (Blk.row [Value.int IntKind.i64 t.kind, Value.string t.name, Value.string t.num, Value.int IntKind.u64 t.bits, Value.int IntKind.i64 t.var, Value.slice a t.args.length c] 26) := by rw [hx4.keep _ (Nat.lt_of_lt_of_le hlt2 hx3.next)]; exact hb3
    cases hn : fn t.bits with
    | true =>
      try simp (config := { maxSteps := 2000000 }) (disch := first | omega | rfl) only [sA, Nat.reduceEqDiff, if_true, if_false]
      refine EvC.condT (by simp only [sA, Nat.reduceEqDiff, if_true, if_false]) ?_
      (repeat refine EvC.seq ?_); refine EvC.reg ?_; simp (config := { maxSteps := 2000000 }) (disch := first | omega | rfl) only [sA]
      refine EvC.ret ?_
      try simp (config := { maxSteps := 2000000 }) (disch := first | omega | rfl) only [thenC_ret]
      exact leave_one rfl (by simp only [Tr.get_put, Nat.reduceEqDiff, if_true, if_false]; rfl) ⟨by rw [hne, if_pos ⟨k4, by rw [hn]; rfl⟩], hxx3.trans hx4⟩
    | false =>
    try simp (config := { maxSteps := 2000000 }) (disch := first | omega | rfl) only [sA, Nat.reduceEqDiff, if_true, if_false, g3, Bool.false_eq_true, dop_call call104]
    refine (hF t.bits _ b4 hx4.wf).2.mono ?_
    rintro v H5 ⟨rfl, hx5⟩
    have hb5 : H5.get H.next = some (Blk.row [Value.int IntKind.i64 t.kind, Value.string t.name, Value.string t.num, Value.int IntKind.u64 t.bits, Value.int IntKind.i64 t.var, Value.slice a t.args.length c] 26) := by rw [hx5.keep _ (Nat.lt_of_lt_of_le (Nat.lt_of_lt_of_le hlt2 hx3.next) hx4.next)]; exact hb4
    have n3 : H5.load ⟨H.next, 3, none⟩ 1 = some [.int .u64 t.bits] := by simp only [Heap.load, Heap.cells, hb5]; rfl
    cases hi : fi t.bits with
    | true =>
      try simp (config := { maxSteps := 2000000 }) (disch := first | omega | rfl) only [sA, Nat.reduceEqDiff, if_true, if_false]
      refine EvC.condT (by simp only [sA, Nat.reduceEqDiff, if_true, if_false]) ?_
      (repeat refine EvC.seq ?_); refine EvC.reg ?_; simp (config := { maxSteps := 2000000 }) (disch := first | omega | rfl) only [sA]
      refine EvC.ret ?_
      try simp (config := { maxSteps := 2000000 }) (disch := first | omega | rfl) only [thenC_ret]
      exact leave_one rfl (by simp only [Tr.get_put, Nat.reduceEqDiff, if_true, if_false]; rfl) ⟨by rw [hne, if_pos ⟨k4, by rw [hn, hi]; rfl⟩], (hxx3.trans hx4).trans hx5⟩
    | false =>
    cases hz : (t.bits == 9223372036854775808) with
    | true =>
      try simp (config := { maxSteps := 2000000 }) (disch := first | omega | rfl) only [sA, Nat.reduceEqDiff, if_true, if_false, g1, n3, hz, dFieldAddr_at fld26_3 one23, dLoad_one agg23, Bool.false_eq_true]
      refine EvC.condT (by simp only [sA, Nat.reduceEqDiff, if_true, if_false]) ?_
      (repeat refine EvC.seq ?_); refine EvC.reg ?_; simp (config := { maxSteps := 2000000 }) (disch := first | omega | rfl) only [sA]
      refine EvC.ret ?_
      try simp (config := { maxSteps := 2000000 }) (disch := first | omega | rfl) only [thenC_ret]
      exact leave_one rfl (by simp only [Tr.get_put, Nat.reduceEqDiff, if_true, if_false]; rfl) ⟨by rw [hne, if_pos ⟨k4, by rw [hn, hi, hz]; rfl⟩], (hxx3.trans hx4).trans hx5⟩
    | false =>
      try simp (config := { maxSteps := 2000000 }) (disch := first | omega | rfl) only [sA, Nat.reduceEqDiff, if_true, if_false, g1, n3, hz, dFieldAddr_at fld26_3 one23, dLoad_one agg23, Bool.false_eq_true]
      refine EvC.condF (by simp only [sA, Nat.reduceEqDiff, if_true, if_false]) (EvC.skip ?_)
      try simp (config := { maxSteps := 2000000 }) (disch := first | omega | rfl) only [thenC_normal]
      (repeat refine EvC.seq ?_); refine EvC.reg ?_; simp (config := { maxSteps := 2000000 }) (disch := first | omega | rfl) only [sA]
      refine EvC.ret ?_
      try simp (config := { maxSteps := 2000000 }) (disch := first | omega | rfl) only []
      exact leave_one rfl (by simp only [Tr.get_put, Nat.reduceEqDiff, if_true, if_false]; rfl) ⟨by rw [hne, if_neg (by rw [hn, hi, hz]; simp)], (hxx3.trans hx4).trans hx5⟩
  have q4 : (t.kind == 4) = false := by simp [k4]
  (repeat refine EvC.seq ?_); refine EvC.reg ?_; simp (config := { maxSteps := 2000000 }) (disch := first | omega | rfl) only [sA, Nat.reduceEqDiff, if_true, if_false, g1, m0, q4, dFieldAddr_at fld26_0 one3, dLoad_one agg3]
  refine EvC.condF (by simp only [sA, Nat.reduceEqDiff, if_true, if_false]) (EvC.skip ?_)
  try simp (config := { maxSteps := 2000000 }) (disch := first | omega | rfl) only [thenC_normal]
  (repeat refine EvC.seq ?_); refine EvC.reg ?_; simp (config := { maxSteps := 2000000 }) (disch := first | omega | rfl) only [sA]
  refine EvC.ret ?_
  try simp (config := { maxSteps := 2000000 }) (disch := first | omega | rfl) only []
  exact leave_one rfl (by simp only [Tr.get_put, Nat.reduceEqDiff, if_true, if_false]; rfl) ⟨by rw [hne, if_neg (fun h => k4 h.1)], hxx3⟩
end Go.Proofs.YtlllbkjiadcloaaDoor.hb
end

-- W6
section
/- All nodes of a term; Check. -/
namespace Go.Proofs.YtlllbkjiadcloaaDoor.hb
open Go Go.RowKit Go.Hb

theorem call50 : callable Tryd.prog 50 = true := by kernel_rfl
theorem call51 : callable Tryd.prog 51 = true := by kernel_rfl
theorem call84 : callable Tryd.prog 84 = true := by kernel_rfl
theorem call85 : callable Tryd.prog 85 = true := by kernel_rfl
mutual
/-- what is wrong with the first node that is -/
def allE (E : Tm → Int) : Tm → Int
  | .mk k s u b v l => if E (.mk k s u b v l) = 0 then allL E l else E (.mk k s u b v l)
def allL (E : Tm → Int) : List Tm → Int
  | [] => 0
  | t :: l => if allE E t = 0 then allL E l else allE E t
end
theorem allE_eq (E : Tm → Int) (t : Tm) : allE E t = if E t = 0 then allL E t.args else E t := by
  obtain ⟨k, s, u, b, v, l⟩ := t
  rw [allE]; rfl
theorem allL_drop {E : Tm → Int} {l : List Tm} {i : Nat} {t : Tm} (h : l[i]? = some t) : allL E (l.drop i) = if allE E t = 0 then allL E (l.drop (i + 1)) else allE E t := by
  have hlt := (List.getElem?_eq_some_iff.1 h).1
  have he : l[i] = t := (List.getElem?_eq_some_iff.1 h).2
  rw [List.drop_eq_getElem_cons hlt, allL, he]
def checkE (E : Tm → Int) (t : Tm) : Int := if 4000 < cnt t 0 then 24 else allE E t

/-- a call that tells a number of a term, and leaves all as it is -/
def TellsT (ok : Ok) (f : FuncId) (E : Tm → Int) : Prop := ∀ (t : Tm) (cs : List Value) (H : Heap), RepT H t cs → H.wf → EvF Tryd.prog ok f [.agg ⟨cs⟩] H fun v H' => v = .int .i64 (E t) ∧ HX H H'

theorem bne_of {n : Int} (h : n ≠ 0) : (n != 0) = true := by simp [h]
theorem bne_no {n : Int} (h : n = 0) : (n != 0) = false := by simp [h]

variable {ok : Ok}
set_option maxRecDepth 10000 in
set_option maxHeartbeats 2000000 in
theorem nodes_all_ev {E : Tm → Int} (hE : TellsT ok 84 E) (hk : ∀ args H, ok.K 50 args H = none) (hm : ok.testBit 50 = true) : TellsT ok 50 (allE E) := by
  have main : ∀ (m : Nat) {t : Tm} {cs : List Value} {H : Heap}, SizeOf.sizeOf t < m → RepT H t cs → H.wf → EvF Tryd.prog ok 50 [.agg ⟨cs⟩] H fun v H' => v = .int .i64 (allE E t) ∧ HX H H' := by
    intro m
    induction m with
    | zero => intro t cs H h; omega
    | succ m ih =>
    intro t cs H hsz r hw
    have rr := r
    obtain ⟨a, c, cells, rfl, b1, b2, b3, b4, b5, rl⟩ := r.inv
    have hx := (HX.refl hw).new (some (Blk.row [Value.int IntKind.i64 t.kind, Value.string t.name, Value.string t.num, Value.int IntKind.u64 t.bits, Value.int IntKind.i64 t.var, Value.slice a t.args.length c] 26))
    refine EvF.enter (hk _ _) Tryd.func50 hm rfl ?_
    (repeat refine EvC.seq ?_); refine EvC.reg ?_; simp (config := { maxSteps := 2000000 }) (disch := first | omega | rfl) only [sA, initTm, dBox, Value.cells, one, if_true]
    (repeat refine EvC.seq ?_); refine EvC.reg ?_; simp (config := { maxSteps := 2000000 }) (disch := first | omega | rfl) only [sA, Nat.reduceEqDiff, Nat.reduceAdd, reduceCtorEq, if_true, if_false, cutC, dLoad_agg agg26, cells26, dop_call call84]
    refine (hE t _ _ (rr.mono hx hw) hx.wf).mono ?_
    rintro v H2 ⟨rfl, hx2⟩
    have hxx := hx.trans hx2
    have hb2 : H2.get H.next = some (Blk.row [Value.int IntKind.i64 t.kind, Value.string t.name, Value.string t.num, Value.int IntKind.u64 t.bits, Value.int IntKind.i64 t.var, Value.slice a t.args.length c] 26) := by rw [hx2.keep _ (Nat.lt_succ_self _), Heap.get_new, if_pos rfl]
    have l5 : H2.load ⟨H.next, 5, none⟩ 1 = some [.slice a t.args.length c] := by simp only [Heap.load, Heap.cells, hb2]; rfl
    try simp (config := { maxSteps := 2000000 }) (disch := first | omega | rfl) only []
    by_cases he : E t = 0
    · (repeat refine EvC.seq ?_); refine EvC.reg ?_; simp (config := { maxSteps := 2000000 }) (disch := first | omega | rfl) only [sA, Nat.reduceEqDiff, reduceCtorEq, if_true, if_false, bne_no he]
      refine EvC.condF (by simp only [sA, Nat.reduceEqDiff, reduceCtorEq, if_true, if_false]) (EvC.skip ?_)
      try simp (config := { maxSteps := 2000000 }) (disch := first | omega | rfl) only [thenC_normal]
      (repeat refine EvC.seq ?_); refine EvC.reg ?_; simp (config := { maxSteps := 2000000 }) (disch := first | omega | rfl) only [sA, Nat.reduceEqDiff, reduceCtorEq, if_true, if_false, dFieldAddr_at fld26_5 one24, dLoad_one agg24, l5, dLn_slice Tryd.underlying24]
      (repeat refine EvC.seq ?_); refine EvC.block (EvC.loop (fun k st => ∃ tm H' i, st = ⟨tm, [], H'⟩ ∧ k = t.args.length - i ∧ i ≤ t.args.length ∧ allL E (t.args.drop i) = allE E t ∧
        tm.get 13 = some (.slice a t.args.length c) ∧ tm.get 14 = some (.int .i64 t.args.length) ∧ tm.get 15 = some (.int .i64 (i : Nat)) ∧ HX H H') ?_ t.args.length _ ?_)
      · rintro k st ⟨tm, H', i, rfl, hk', hi, hc, g13, g14, g15, hx'⟩
        (repeat refine EvC.seq ?_); refine EvC.reg ?_; simp (config := { maxSteps := 2000000 }) (disch := first | omega | rfl) only [sA, g14, g15]
        by_cases hlt : i < t.args.length
        · (repeat refine EvC.seq ?_); refine EvC.condT (by simp only [sA, if_true]; exact congrArg _ (decide_eq_true (by omega))) (EvC.skip ?_)
          obtain ⟨b, o, rfl, hload, hrep⟩ := rl.at (i := i) (List.getElem?_eq_getElem hlt)
          obtain ⟨a', c', cells', hcell, -⟩ := hrep.inv
          have hld := hx'.load hw hload
          rw [hcell] at hld hrep
          try simp (config := { maxSteps := 2000000 }) (disch := first | omega | rfl) only [thenC_normal]
          (repeat refine EvC.seq ?_); refine EvC.block ?_
          (repeat refine EvC.seq ?_); refine EvC.reg ?_; simp (config := { maxSteps := 2000000 }) (disch := first | omega | rfl) only [sA, dAlloc, Nat.reduceEqDiff, Nat.reduceAdd, one, if_true, if_false, g13, g15, dIndexAddr_slice Tryd.underlying24 info26 hlt, dLoad_agg agg26, cells26, hld, zero26, dStore_agg info26]
          (repeat refine EvC.seq ?_); refine EvC.reg ?_; simp (config := { maxSteps := 2000000 }) (disch := first | omega | rfl) only [sA, Nat.reduceEqDiff, Nat.reduceAdd, if_true, if_false, cutC, dLoad_agg agg26, cells26, dop_call call50]
          have hx3 := (hx'.new (some (Blk.row [Value.int IntKind.i64 0, Value.string ByteArray.empty, Value.string ByteArray.empty, Value.int IntKind.u64 0, Value.int IntKind.i64 0, Value.slice none 0 0] 26))).put (i := H'.next) hx'.next (Nat.lt_succ_self _)
            (some (.row [Value.int IntKind.i64 t.args[i].kind, Value.string t.args[i].name, Value.string t.args[i].num, Value.int IntKind.u64 t.args[i].bits, Value.int IntKind.i64 t.args[i].var, Value.slice a' t.args[i].args.length c'] 26))
          have ht : t.args[i]? = some t.args[i] := List.getElem?_eq_getElem hlt
          have hs := args_size ht
          refine (ih (t := t.args[i]) (by omega) (hrep.mono hx3 hw) hx3.wf).mono ?_
          rintro v H4 ⟨rfl, hx4⟩
          have hL : t.args.length ≤ 9223372036854775807 := Nat.le_trans rl.len rl.cap
          have hd := allL_drop (E := E) ht
          try simp (config := { maxSteps := 2000000 }) (disch := first | omega | rfl) only []
          by_cases hz : allE E t.args[i] = 0
          · (repeat refine EvC.seq ?_); refine EvC.reg ?_; simp (config := { maxSteps := 2000000 }) (disch := first | omega | rfl) only [sA, Nat.reduceEqDiff, if_true, if_false, bne_no hz]
            refine EvC.condF (by simp only [sA, Nat.reduceEqDiff, if_true, if_false]) (EvC.skip ?_)
            try simp (config := { maxSteps := 2000000 }) (disch := first | omega | rfl) only [sA]
            (repeat refine EvC.seq ?_); refine EvC.reg ?_; simp (config := { maxSteps := 2000000 }) (disch := first | omega | rfl) only [sA, Nat.reduceEqDiff, if_true, if_false, g15, wrap_i64]
            exact ⟨t.args.length - (i + 1), by omega, _, _, i + 1, rfl, rfl, by omega, by rw [← hc, hd, if_pos hz], by simp only [Tr.get_put, Nat.reduceEqDiff, if_false]; exact g13, by simp only [Tr.get_put, Nat.reduceEqDiff, if_false]; exact g14, by simp only [Tr.get_put, Nat.reduceEqDiff, if_true, if_false]; rfl, hx3.trans hx4⟩
          · (repeat refine EvC.seq ?_); refine EvC.reg ?_; simp (config := { maxSteps := 2000000 }) (disch := first | omega | rfl) only [sA, Nat.reduceEqDiff, if_true, if_false, bne_of hz]
            refine EvC.condT (by simp only [sA, Nat.reduceEqDiff, if_true, if_false]) ?_
            (repeat refine EvC.seq ?_); refine EvC.reg ?_; simp (config := { maxSteps := 2000000 }) (disch := first | omega | rfl) only [sA, Nat.reduceEqDiff, if_true, if_false]
            refine EvC.ret ?_
            try simp (config := { maxSteps := 2000000 }) (disch := first | omega | rfl) only [sA]
            exact leave_one rfl (by simp only [Tr.get_put, Nat.reduceEqDiff, if_true, if_false]; rfl) ⟨by rw [← hc, hd, if_neg hz], hx3.trans hx4⟩
        · (repeat refine EvC.seq ?_); refine EvC.condF (by simp only [sA, if_true]; exact congrArg _ (decide_eq_false (by omega))) (EvC.exit ?_)
          try simp (config := { maxSteps := 2000000 }) (disch := first | omega | rfl) only [sA, if_true]
          (repeat refine EvC.seq ?_); refine EvC.reg ?_; simp (config := { maxSteps := 2000000 }) (disch := first | omega | rfl) only [sA]
          refine EvC.ret (leave_one rfl (by simp only [Tr.get_put, Nat.reduceEqDiff, if_true, if_false]; rfl) ⟨?_, hx'⟩)
          rw [← hc, List.drop_of_length_le (by omega), allL]
      · exact ⟨_, _, 0, rfl, rfl, by omega, by rw [allE_eq, if_pos he]; rfl, by simp only [Tr.get_put, Nat.reduceEqDiff, reduceCtorEq, if_true, if_false], by simp only [Tr.get_put, Nat.reduceEqDiff, reduceCtorEq, if_true, if_false], by simp only [Tr.get_put, Nat.reduceEqDiff, reduceCtorEq, if_true, if_false]; rfl, hxx⟩
    · (repeat refine EvC.seq ?_); refine EvC.reg ?_; simp (config := { maxSteps := 2000000 }) (disch := first | omega | rfl) only [sA, Nat.reduceEqDiff, reduceCtorEq, if_true, if_false, bne_of he]
      refine EvC.condT (by simp only [sA, Nat.reduceEqDiff, reduceCtorEq, if_true, if_false]) ?_
      (repeat refine EvC.seq ?_); refine EvC.reg ?_; simp (config := { maxSteps := 2000000 }) (disch := first | omega | rfl) only [sA, Nat.reduceEqDiff, reduceCtorEq, if_true, if_false]
      refine EvC.ret ?_
      try simp (config := { maxSteps := 2000000 }) (disch := first | omega | rfl) only [thenC_ret]
      exact leave_one rfl (by simp only [Tr.get_put, Nat.reduceEqDiff, reduceCtorEq, if_true, if_false]; rfl) ⟨by rw [allE_eq, if_neg he], hxx⟩
  exact fun t cs H r hw => main _ (Nat.lt_succ_self _) r hw
end Go.Proofs.YtlllbkjiadcloaaDoor.hb
end

-- W7
section
/- All nodes of a term, the reference; both 'Check'. -/
namespace Go.Proofs.YtlllbkjiadcloaaDoor.hb
open Go Go.RowKit Go.Hb

theorem beq_of {n : Int} (h : n = 0) : (n == 0) = true := by simp [h]
theorem beq_no {n : Int} (h : n ≠ 0) : (n == 0) = false := by simp [h]

variable {ok : Ok}
set_option maxRecDepth 10000 in
set_option maxHeartbeats 2000000 in
theorem ref_all_ev {E : Tm → Int} (hE : TellsT ok 85 E) (hk : ∀ args H, ok.K 51 args H = none) (hm : ok.testBit 51 = true) : TellsT ok 51 (allE E) := by
  have main : ∀ (m : Nat) {t : Tm} {cs : List Value} {H : Heap}, SizeOf.sizeOf t < m → RepT H t cs → H.wf → EvF Tryd.prog ok 51 [.agg ⟨cs⟩] H fun v H' => v = .int .i64 (allE E t) ∧ HX H H' := by
    intro m
    induction m with
    | zero => intro t cs H h; omega
    | succ m ih =>
    intro t cs H hsz r hw
    have rr := r
    obtain ⟨a, c, cells, rfl, b1, b2, b3, b4, b5, rl⟩ := r.inv
    have hx := (HX.refl hw).new (some (Blk.row [Value.int IntKind.i64 t.kind, Value.string t.name, Value.string t.num, Value.int IntKind.u64 t.bits, Value.int IntKind.i64 t.var, Value.slice a t.args.length c] 26))
    refine EvF.enter (hk _ _) Tryd.func51 hm rfl ?_
    (repeat refine EvC.seq ?_); refine EvC.reg ?_; simp (config := { maxSteps := 2000000 }) (disch := first | omega | rfl) only [sA, initTm, dBox, Value.cells, one, if_true]
    (repeat refine EvC.seq ?_); refine EvC.reg ?_; simp (config := { maxSteps := 2000000 }) (disch := first | omega | rfl) only [sA, Nat.reduceEqDiff, Nat.reduceAdd, reduceCtorEq, if_true, if_false, cutC, dLoad_agg agg26, cells26, dop_call call85]
    refine (hE t _ _ (rr.mono hx hw) hx.wf).mono ?_
    rintro v H2 ⟨rfl, hx2⟩
    have hxx := hx.trans hx2
    have hb2 : H2.get H.next = some (Blk.row [Value.int IntKind.i64 t.kind, Value.string t.name, Value.string t.num, Value.int IntKind.u64 t.bits, Value.int IntKind.i64 t.var, Value.slice a t.args.length c] 26) := by rw [hx2.keep _ (Nat.lt_succ_self _), Heap.get_new, if_pos rfl]
    try simp (config := { maxSteps := 2000000 }) (disch := first | omega | rfl) only []
    (repeat refine EvC.seq ?_); refine EvC.reg ?_; simp (config := { maxSteps := 2000000 }) (disch := first | omega | rfl) only [sA]
    have hlt2 : H.next < H2.next := Nat.lt_of_lt_of_le (Nat.lt_succ_self _) hx2.next
    -- e: what is known so far; where it is nought, what the rest tells
    (repeat refine EvC.seq ?_); refine EvC.block (EvC.loop (fun k st => ∃ tm H' i e, st = ⟨tm, [], H'⟩ ∧ k = t.args.length - i ∧ i ≤ t.args.length ∧ (if e = 0 then allL E (t.args.drop i) else e) = allE E t ∧
        tm.get 1 = some (.pointer (some ⟨H.next, 0, none⟩)) ∧ tm.get 3 = some (.int .i64 e) ∧ tm.get 4 = some (.int .i64 (i : Nat)) ∧ H'.get H.next = some (Blk.row [Value.int IntKind.i64 t.kind, Value.string t.name, Value.string t.num, Value.int IntKind.u64 t.bits, Value.int IntKind.i64 t.var, Value.slice a t.args.length c] 26) ∧ H.next < H'.next ∧ HX H H') ?_ t.args.length _ ?_)
    · rintro k st ⟨tm, H', i, e, rfl, hk', hi, hc, g1, g3, g4, hb, hlt0, hx'⟩
      have l5 : H'.load ⟨H.next, 5, none⟩ 1 = some [.slice a t.args.length c] := by simp only [Heap.load, Heap.cells, hb]; rfl
      by_cases hlt : i < t.args.length
      · have hd1 : decide ((i : Int) < (t.args.length : Int)) = true := decide_eq_true (by omega)
        by_cases he : e = 0
        · (repeat refine EvC.seq ?_); refine EvC.reg ?_; simp (config := { maxSteps := 2000000 }) (disch := first | omega | rfl) only [sA, Nat.reduceEqDiff, if_true, if_false, g1, g3, g4, dFieldAddr_at fld26_5 one24, dLoad_one agg24, l5, dLn_slice Tryd.underlying24, hd1, beq_of he]
          (repeat refine EvC.seq ?_); refine EvC.condT (by simp only [sA, Nat.reduceEqDiff, if_true, if_false]) (EvC.skip ?_)
          obtain ⟨b, o, rfl, hload, hrep⟩ := rl.at (i := i) (List.getElem?_eq_getElem hlt)
          obtain ⟨a', c', cells', hcell, -⟩ := hrep.inv
          have hld := hx'.load hw hload
          rw [hcell] at hld hrep
          try simp (config := { maxSteps := 2000000 }) (disch := first | omega | rfl) only [thenC_normal]
          (repeat refine EvC.seq ?_); refine EvC.block ?_
          (repeat refine EvC.seq ?_); refine EvC.reg ?_; simp (config := { maxSteps := 2000000 }) (disch := first | omega | rfl) only [sA, Nat.reduceEqDiff, if_true, if_false, g1, g4, dFieldAddr_at fld26_5 one24, dLoad_one agg24, l5, dIndexAddr_slice Tryd.underlying24 info26 hlt, dLoad_agg agg26, cells26, hld, dop_call call51]
          have ht : t.args[i]? = some t.args[i] := List.getElem?_eq_getElem hlt
          have hs := args_size ht
          refine (ih (t := t.args[i]) (by omega) (hrep.mono hx' hw) hx'.wf).mono ?_
          rintro v H4 ⟨rfl, hx4⟩
          have hL : t.args.length ≤ 9223372036854775807 := Nat.le_trans rl.len rl.cap
          try simp (config := { maxSteps := 2000000 }) (disch := first | omega | rfl) only []
          (repeat refine EvC.seq ?_); refine EvC.reg ?_; simp (config := { maxSteps := 2000000 }) (disch := first | omega | rfl) only [sA, Nat.reduceEqDiff, if_true, if_false, g4, wrap_i64]
          exact ⟨t.args.length - (i + 1), by omega, _, _, i + 1, allE E t.args[i], rfl, rfl, by omega, by rw [← hc, if_pos he, allL_drop (E := E) ht], by simp only [Tr.get_put, Nat.reduceEqDiff, if_false]; exact g1, by simp only [Tr.get_put, Nat.reduceEqDiff, if_true, if_false], by simp only [Tr.get_put, Nat.reduceEqDiff, if_true, if_false]; rfl, by rw [hx4.keep _ hlt0]; exact hb, Nat.lt_of_lt_of_le hlt0 hx4.next, hx'.trans hx4⟩
        · (repeat refine EvC.seq ?_); refine EvC.reg ?_; simp (config := { maxSteps := 2000000 }) (disch := first | omega | rfl) only [sA, Nat.reduceEqDiff, if_true, if_false, g1, g3, g4, dFieldAddr_at fld26_5 one24, dLoad_one agg24, l5, dLn_slice Tryd.underlying24, hd1, beq_no he]
          (repeat refine EvC.seq ?_); refine EvC.condF (by simp only [sA, Nat.reduceEqDiff, if_true, if_false]) (EvC.exit ?_)
          try simp (config := { maxSteps := 2000000 }) (disch := first | omega | rfl) only [sA, if_true]
          (repeat refine EvC.seq ?_); refine EvC.reg ?_; simp (config := { maxSteps := 2000000 }) (disch := first | omega | rfl) only [sA, Nat.reduceEqDiff, if_true, if_false, g3]
          refine EvC.ret (leave_one rfl (by simp only [Tr.get_put, Nat.reduceEqDiff, if_true, if_false]; rfl) ⟨by rw [← hc, if_neg he], hx'⟩)
      · have hd1 : decide ((i : Int) < (t.args.length : Int)) = false := decide_eq_false (by omega)
        (repeat refine EvC.seq ?_); refine EvC.reg ?_; simp (config := { maxSteps := 2000000 }) (disch := first | omega | rfl) only [sA, Nat.reduceEqDiff, if_true, if_false, g1, g4, dFieldAddr_at fld26_5 one24, dLoad_one agg24, l5, dLn_slice Tryd.underlying24, hd1, Bool.false_eq_true]
        (repeat refine EvC.seq ?_); refine EvC.condF (by simp only [sA, Nat.reduceEqDiff, if_true, if_false]) (EvC.exit ?_)
        try simp (config := { maxSteps := 2000000 }) (disch := first | omega | rfl) only [sA, if_true]
        (repeat refine EvC.seq ?_); refine EvC.reg ?_; simp (config := { maxSteps := 2000000 }) (disch := first | omega | rfl) only [sA, Nat.reduceEqDiff, if_true, if_false, g3]
        refine EvC.ret (leave_one rfl (by simp only [Tr.get_put, Nat.reduceEqDiff, if_true, if_false]; rfl) ⟨?_, hx'⟩)
        rw [← hc, List.drop_of_length_le (by omega), allL]
        split
        · rename_i h; rw [h]
        · rfl
    · exact ⟨_, _, 0, E t, rfl, rfl, by omega, by rw [allE_eq]; rfl, by simp only [Tr.get_put, Nat.reduceEqDiff, reduceCtorEq, if_true, if_false], by simp only [Tr.get_put, Nat.reduceEqDiff, reduceCtorEq, if_true, if_false], by simp only [Tr.get_put, Nat.reduceEqDiff, reduceCtorEq, if_true, if_false]; rfl, hb2, hlt2, hxx⟩
  exact fun t cs H r hw => main _ (Nat.lt_succ_self _) r hw

set_option maxRecDepth 10000 in
theorem check_ev {E : Tm → Int} (hN : TellsT ok 13 fun t => cnt t 0) (hE : TellsT ok 50 (allE E)) (hk : ∀ args H, ok.K 15 args H = none) (hm : ok.testBit 15 = true) : TellsT ok 15 (checkE E) := by
  intro t cs H r hw
  have rr := r
  obtain ⟨a, c, cells, rfl, b1, b2, b3, b4, b5, rl⟩ := r.inv
  have hx := (HX.refl hw).new (some (Blk.row [Value.int IntKind.i64 t.kind, Value.string t.name, Value.string t.num, Value.int IntKind.u64 t.bits, Value.int IntKind.i64 t.var, Value.slice a t.args.length c] 26))
  refine EvF.enter (hk _ _) Tryd.func15 hm rfl ?_
  (repeat refine EvC.seq ?_); refine EvC.reg ?_; simp (config := { maxSteps := 2000000 }) (disch := first | omega | rfl) only [sA, initTm, dBox, Value.cells, one, if_true]
  (repeat refine EvC.seq ?_); refine EvC.reg ?_; simp (config := { maxSteps := 2000000 }) (disch := first | omega | rfl) only [sA, Nat.reduceEqDiff, Nat.reduceAdd, reduceCtorEq, if_true, if_false, cutC, dLoad_agg agg26, cells26, dop_call call13]
  refine (hN t _ _ (rr.mono hx hw) hx.wf).mono ?_
  rintro v H2 ⟨rfl, hx2⟩
  have hxx := hx.trans hx2
  have hb2 : H2.get H.next = some (Blk.row [Value.int IntKind.i64 t.kind, Value.string t.name, Value.string t.num, Value.int IntKind.u64 t.bits, Value.int IntKind.i64 t.var, Value.slice a t.args.length c] 26) := by rw [hx2.keep _ (Nat.lt_succ_self _), Heap.get_new, if_pos rfl]
  have l6 : H2.load ⟨H.next, 0, none⟩ 6 = some [Value.int IntKind.i64 t.kind, Value.string t.name, Value.string t.num, Value.int IntKind.u64 t.bits, Value.int IntKind.i64 t.var, Value.slice a t.args.length c] := by simp only [Heap.load, Heap.cells, hb2]; rfl
  by_cases hov : 4000 < cnt t 0
  · (repeat refine EvC.seq ?_); refine EvC.condT (by simp only [sA, Nat.reduceEqDiff, reduceCtorEq, if_true, if_false]; exact congrArg _ (decide_eq_true (by omega))) ?_
    (repeat refine EvC.seq ?_); refine EvC.reg ?_; simp (config := { maxSteps := 2000000 }) (disch := first | omega | rfl) only [sA]
    refine EvC.ret ?_
    try simp (config := { maxSteps := 2000000 }) (disch := first | omega | rfl) only [thenC_ret]
    exact leave_one rfl (by simp only [Tr.get_put, Nat.reduceEqDiff, reduceCtorEq, if_true, if_false]; rfl) ⟨by rw [checkE, if_pos hov], hxx⟩
  · (repeat refine EvC.seq ?_); refine EvC.condF (by simp only [sA, Nat.reduceEqDiff, reduceCtorEq, if_true, if_false]; exact congrArg _ (decide_eq_false (by omega))) (EvC.skip ?_)
    try simp (config := { maxSteps := 2000000 }) (disch := first | omega | rfl) only [sA]
    (repeat refine EvC.seq ?_); refine EvC.reg ?_; simp (config := { maxSteps := 2000000 }) (disch := first | omega | rfl) only [sA, Nat.reduceEqDiff, reduceCtorEq, if_true, if_false, dLoad_agg agg26, cells26, l6, dop_call call50]
    refine (hE t _ _ (rr.mono hxx hw) hx2.wf).mono ?_
    rintro v H3 ⟨rfl, hx3⟩
    try simp (config := { maxSteps := 2000000 }) (disch := first | omega | rfl) only []
    refine EvC.ret ?_
    try simp (config := { maxSteps := 2000000 }) (disch := first | omega | rfl) only []
    exact leave_one rfl (by simp only [Tr.get_put, Nat.reduceEqDiff, reduceCtorEq, if_true, if_false]; rfl) ⟨by rw [checkE, if_neg hov], hxx.trans hx3⟩

set_option maxRecDepth 10000 in
theorem ref_check_ev {E : Tm → Int} (hN : TellsT ok 14 fun t => cnt t 0) (hE : TellsT ok 51 (allE E)) (hk : ∀ args H, ok.K 16 args H = none) (hm : ok.testBit 16 = true) : TellsT ok 16 (checkE E) := by
  intro t cs H r hw
  have rr := r
  obtain ⟨a, c, cells, rfl, b1, b2, b3, b4, b5, rl⟩ := r.inv
  have hx := (HX.refl hw).new (some (Blk.row [Value.int IntKind.i64 t.kind, Value.string t.name, Value.string t.num, Value.int IntKind.u64 t.bits, Value.int IntKind.i64 t.var, Value.slice a t.args.length c] 26))
  refine EvF.enter (hk _ _) Tryd.func16 hm rfl ?_
  (repeat refine EvC.seq ?_); refine EvC.reg ?_; simp (config := { maxSteps := 2000000 }) (disch := first | omega | rfl) only [sA, initTm, dBox, Value.cells, one, if_true]
  (repeat refine EvC.seq ?_); refine EvC.reg ?_; simp (config := { maxSteps := 2000000 }) (disch := first | omega | rfl) only [sA, Nat.reduceEqDiff, Nat.reduceAdd, reduceCtorEq, if_true, if_false, cutC, dLoad_agg agg26, cells26, dop_call call14]
  refine (hN t _ _ (rr.mono hx hw) hx.wf).mono ?_
  rintro v H2 ⟨rfl, hx2⟩
  have hxx := hx.trans hx2
  have hb2 : H2.get H.next = some (Blk.row [Value.int IntKind.i64 t.kind, Value.string t.name, Value.string t.num, Value.int IntKind.u64 t.bits, Value.int IntKind.i64 t.var, Value.slice a t.args.length c] 26) := by rw [hx2.keep _ (Nat.lt_succ_self _), Heap.get_new, if_pos rfl]
  have l6 : H2.load ⟨H.next, 0, none⟩ 6 = some [Value.int IntKind.i64 t.kind, Value.string t.name, Value.string t.num, Value.int IntKind.u64 t.bits, Value.int IntKind.i64 t.var, Value.slice a t.args.length c] := by simp only [Heap.load, Heap.cells, hb2]; rfl
  by_cases hov : 4000 < cnt t 0
  · (repeat refine EvC.seq ?_); refine EvC.condT (by simp only [sA, Nat.reduceEqDiff, reduceCtorEq, if_true, if_false]; exact congrArg _ (decide_eq_true (by omega))) ?_
    (repeat refine EvC.seq ?_); refine EvC.reg ?_; simp (config := { maxSteps := 2000000 }) (disch := first | omega | rfl) only [sA]
    refine EvC.ret ?_
    try simp (config := { maxSteps := 2000000 }) (disch := first | omega | rfl) only [thenC_ret]
    exact leave_one rfl (by simp only [Tr.get_put, Nat.reduceEqDiff, reduceCtorEq, if_true, if_false]; rfl) ⟨by rw [checkE, if_pos hov], hxx⟩
  · (repeat refine EvC.seq ?_); refine EvC.condF (by simp only [sA, Nat.reduceEqDiff, reduceCtorEq, if_true, if_false]; exact congrArg _ (decide_eq_false (by omega))) (EvC.skip ?_)
    try simp (config := { maxSteps := 2000000 }) (disch := first | omega | rfl) only [sA]
    (repeat refine EvC.seq ?_); refine EvC.reg ?_; simp (config := { maxSteps := 2000000 }) (disch := first | omega | rfl) only [sA, Nat.reduceEqDiff, reduceCtorEq, if_true, if_false, dLoad_agg agg26, cells26, l6, dop_call call51]
    refine (hE t _ _ (rr.mono hxx hw) hx2.wf).mono ?_
    rintro v H3 ⟨rfl, hx3⟩
    try simp (config := { maxSteps := 2000000 }) (disch := first | omega | rfl) only []
    refine EvC.ret ?_
    try simp (config := { maxSteps := 2000000 }) (disch := first | omega | rfl) only []
    exact leave_one rfl (by simp only [Tr.get_put, Nat.reduceEqDiff, reduceCtorEq, if_true, if_false]; rfl) ⟨by rw [checkE, if_neg hov], hxx.trans hx3⟩
end Go.Proofs.YtlllbkjiadcloaaDoor.hb
end

-- W8
section
/- Floats: the program's tests and the reference's. -/
namespace Go.Proofs.YtlllbkjiadcloaaDoor.hb
open Go Go.RowKit Go.Hb

section
variable {P : Program} {H : Heap}
theorem dBin_neqF {t : TypeId} {x y : Operand} {k : FloatKind} {a b : Nat} : dBin P .neq t x y (.float k a) (.float k b) H = some (.val (.bool (k.format.order a b != some .eq)) H) := by
  simp [dBin, dnil, flat, eqGuard, binOp, Op.floatCmp, Sem.bind]; rfl
theorem dBin_gtrF {t : TypeId} {x y : Operand} {k : FloatKind} {a b : Nat} : dBin P .gtr t x y (.float k a) (.float k b) H = some (.val (.bool (k.format.order a b == some .gt)) H) := by
  simp [dBin, dnil, flat, eqGuard, binOp, Op.floatCmp, Sem.bind]; rfl
def iAndNot (k : IntKind) (a b : Int) : Int := k.wrap (BitVec.ofInt k.bits a &&& ~~~BitVec.ofInt k.bits b).toNat
def iAnd (k : IntKind) (a b : Int) : Int := k.wrap (BitVec.ofInt k.bits a &&& BitVec.ofInt k.bits b).toNat
theorem dBin_andNot {t : TypeId} {x y : Operand} {k : IntKind} {a b : Int} : dBin P .andNot t x y (.int k a) (.int k b) H = some (.val (.int k (iAndNot k a b)) H) := by
  simp [dBin, dnil, flat, eqGuard, binOp, Op.intBits, Sem.bind, -BitVec.toNat_and, -BitVec.toNat_not, -BitVec.toNat_ofInt]; rfl
theorem dBin_and {t : TypeId} {x y : Operand} {k : IntKind} {a b : Int} : dBin P .and t x y (.int k a) (.int k b) H = some (.val (.int k (iAnd k a b)) H) := by
  simp [dBin, dnil, flat, eqGuard, binOp, Op.intBits, Sem.bind]; rfl
theorem dBin_shr {t : TypeId} {x y : Operand} {k k' : IntKind} {a b : Int} (h : 0 ≤ b) : dBin P .shr t x y (.int k a) (.int k' b) H = some (.val (.int k (a.fdiv (2 ^ (min b.toNat k.bits)))) H) := by
  have hb : ¬ b < 0 := by omega
  simp [dBin, dnil, flat, eqGuard, binOp, Op.shift, hb, Sem.bind]; rfl
end

def rhoF (n : Nat) : Operand → Value
  | .func f => .func (.func f) #[] #[]
  | _ => .float .f64 n
theorem bits_run (n : Nat) (d : Option Tmp) (k : Tmp) (ats : Array TypeId) (ty : TypeId) (pos : String) (af : Array Edge) (g : Option (Nat × Bool)) :
    pureRun Tryd.prog (execOp (rhoF n) ⟨d, .call ⟨.value (.func 143), #[.tmp k], ats⟩, ty, pos, af, g⟩) = some (.value (.int .u64 n)) := by kernel_rfl
theorem nocall143 (l : List Value) : dcall1 Tryd.prog 143 l = none := by
  unfold dcall1
  rw [Tryd.func143]
  rfl
theorem dop_bits {d : Option Tmp} {k : Tmp} {ats : Array TypeId} {ty : TypeId} {pos : String} {af : Array Edge} {g : Option (Nat × Bool)} {tm : Tr Value} {H : Heap} {n : Nat} (hv : tm.get k = some (.float .f64 n)) :
    dop Tryd.prog ⟨d, .call ⟨.value (.func 143), #[.tmp k], ats⟩, ty, pos, af, g⟩ (ev tm) H = some (.val (.int .u64 n) H) := by
  have hρ : ∀ y ∈ (⟨d, .call ⟨.value (.func 143), #[.tmp k], ats⟩, ty, pos, af, g⟩ : Oper).op.operands, ev tm y = rhoF n y := by
    intro y hy
    simp [Op.operands, Call.operands] at hy
    rcases hy with rfl | rfl
    · rfl
    · show (tm.get k).getD junk = _
      rw [hv]; rfl
  have e : dop Tryd.prog ⟨d, .call ⟨.value (.func 143), #[.tmp k], ats⟩, ty, pos, af, g⟩ (ev tm) H = dflat Tryd.prog ⟨d, .call ⟨.value (.func 143), #[.tmp k], ats⟩, ty, pos, af, g⟩ (ev tm) H := by
    simp only [dop, ev, nocall143]
  have hf : allFlat (ev tm) (⟨d, .call ⟨.value (.func 143), #[.tmp k], ats⟩, ty, pos, af, g⟩ : Oper) = true := by
    unfold allFlat
    rw [List.all_eq_true]
    intro y hy
    rw [hρ y (Array.mem_toList_iff.1 hy)]
    simp [Op.operands, Call.operands] at hy
    rcases hy with rfl | rfl <;> rfl
  rw [e]
  unfold dflat
  rw [hf, execOp_congr _ (by intro cs b h; cases h) hρ, bits_run]
  rfl

theorem call126 : callable Tryd.prog 126 = true := by kernel_rfl
def fnB (n : Int) : Bool := FloatKind.f64.format.order n.toNat n.toNat != some .eq
def absN (m : Nat) : Nat := (iAndNot .u64 m 9223372036854775808).toNat
def fiB (n : Int) : Bool := FloatKind.f64.format.order (absN n.toNat) 9218868437227405311 == some .gt

variable {ok : Ok}
set_option maxRecDepth 10000
theorem abs_ev (hk : ∀ args H, ok.K 126 args H = none) (hm : ok.testBit 126 = true) (m : Nat) (H : Heap) (hw : H.wf) : EvF Tryd.prog ok 126 [.float .f64 m] H fun v H' => v = .float .f64 (absN m) ∧ HX H H' := by
  refine EvF.enter (hk _ _) Tryd.func126 hm rfl ?_
  (repeat refine EvC.seq ?_); refine EvC.reg ?_; simp (config := { maxSteps := 2000000 }) (disch := first | omega | rfl) only [sA, initTm]
  (repeat refine EvC.seq ?_); refine EvC.reg ?_; simp (config := { maxSteps := 2000000 }) (disch := first | omega | rfl) only [sA, reduceCtorEq, if_true, if_false]
  rw [dop_bits (n := m) (by simp only [Tr.get_put, Nat.reduceEqDiff, reduceCtorEq, if_true, if_false])]
  try simp (config := { maxSteps := 2000000 }) (disch := first | omega | rfl) only [sA, Nat.reduceEqDiff, reduceCtorEq, if_true, if_false, dBin_andNot]
  rw [dop_frombits (n := iAndNot .u64 m 9223372036854775808) (by simp only [Tr.get_put, Nat.reduceEqDiff, reduceCtorEq, if_true, if_false])]
  try simp (config := { maxSteps := 2000000 }) (disch := first | omega | rfl) only [sA, Nat.reduceEqDiff, reduceCtorEq, if_true, if_false]
  refine EvC.ret ?_
  exact leave_one rfl (by simp only [Tr.get_put, Nat.reduceEqDiff, reduceCtorEq, if_true, if_false]; rfl) ⟨rfl, HX.refl hw⟩
theorem isnan_ev (hk : ∀ args H, ok.K 103 args H = none) (hm : ok.testBit 103 = true) (n : Int) (H : Heap) (hw : H.wf) : EvF Tryd.prog ok 103 [.float .f64 n.toNat] H fun v H' => v = .bool (fnB n) ∧ HX H H' := by
  refine EvF.enter (hk _ _) Tryd.func103 hm rfl ?_
  (repeat refine EvC.seq ?_); refine EvC.reg ?_; simp (config := { maxSteps := 2000000 }) (disch := first | omega | rfl) only [sA, initTm]
  (repeat refine EvC.seq ?_); refine EvC.reg ?_; simp (config := { maxSteps := 2000000 }) (disch := first | omega | rfl) only [sA, Nat.reduceEqDiff, reduceCtorEq, if_true, if_false, dBin_neqF]
  refine EvC.ret ?_
  exact leave_one rfl (by simp only [Tr.get_put, Nat.reduceEqDiff, reduceCtorEq, if_true, if_false]; rfl) ⟨rfl, HX.refl hw⟩
theorem isinf_ev (hk : ∀ f args H, (f = 104 ∨ f = 126) → ok.K f args H = none) (hm : ok.testBit 104 = true) (hm2 : ok.testBit 126 = true) (n : Int) (H : Heap) (hw : H.wf) :
    EvF Tryd.prog ok 104 [.float .f64 n.toNat, .int .i64 0] H fun v H' => v = .bool (fiB n) ∧ HX H H' := by
  refine EvF.enter (hk _ _ _ (.inl rfl)) Tryd.func104 hm rfl ?_
  (repeat refine EvC.seq ?_); refine EvC.reg ?_; simp (config := { maxSteps := 2000000 }) (disch := first | omega | rfl) only [sA, initTm]
  (repeat refine EvC.seq ?_); refine EvC.reg ?_; simp (config := { maxSteps := 2000000 }) (disch := first | omega | rfl) only [sA, Nat.reduceEqDiff, reduceCtorEq, if_true, if_false]
  (repeat refine EvC.seq ?_); refine EvC.condT (by simp only [sA, Nat.reduceEqDiff, reduceCtorEq, if_true, if_false]; rfl) ?_
  (repeat refine EvC.seq ?_); refine EvC.reg ?_; simp (config := { maxSteps := 2000000 }) (disch := first | omega | rfl) only [sA, Nat.reduceEqDiff, reduceCtorEq, if_true, if_false, dop_call call126]
  refine (abs_ev (hk 126 · · (.inr rfl)) hm2 n.toNat H hw).mono ?_
  rintro v H2 ⟨rfl, hx⟩
  try simp (config := { maxSteps := 2000000 }) (disch := first | omega | rfl) only []
  (repeat refine EvC.seq ?_); refine EvC.reg ?_; simp (config := { maxSteps := 2000000 }) (disch := first | omega | rfl) only [sA, Nat.reduceEqDiff, reduceCtorEq, if_true, if_false, dBin_gtrF]
  refine EvC.ret ?_
  exact leave_one rfl (by simp only [Tr.get_put, Nat.reduceEqDiff, reduceCtorEq, if_true, if_false]; rfl) ⟨rfl, hx⟩

def flB (n : Int) : Bool := !(iAnd .u64 (n.fdiv (2 ^ (min (Int.toNat 52) IntKind.u64.bits))) 2047 == 2047) && !(n == 9223372036854775808)
theorem floats_ev (hk : ∀ args H, ok.K 107 args H = none) (hm : ok.testBit 107 = true) : TellsU ok 107 flB := by
  intro n H hn hw
  refine EvF.enter (hk _ _) Tryd.func107 hm rfl ?_
  (repeat refine EvC.seq ?_); refine EvC.reg ?_; simp (config := { maxSteps := 2000000 }) (disch := first | omega | rfl) only [sA, initTm]
  cases h1 : (iAnd .u64 (n.fdiv (2 ^ (min (Int.toNat 52) IntKind.u64.bits))) 2047 == 2047) with
  | true =>
    (repeat refine EvC.seq ?_); refine EvC.reg ?_; simp (config := { maxSteps := 2000000 }) (disch := first | omega | rfl) only [sA, Nat.reduceEqDiff, reduceCtorEq, if_true, if_false, dBin_shr, dBin_and, bne, h1, Bool.not_true, Bool.false_eq_true]
    refine EvC.ret ?_
    exact leave_one rfl (by simp only [Tr.get_put, Nat.reduceEqDiff, reduceCtorEq, if_true, if_false]; rfl) ⟨by unfold flB; rw [h1]; rfl, HX.refl hw⟩
  | false =>
    (repeat refine EvC.seq ?_); refine EvC.reg ?_; simp (config := { maxSteps := 2000000 }) (disch := first | omega | rfl) only [sA, Nat.reduceEqDiff, reduceCtorEq, if_true, if_false, dBin_shr, dBin_and, bne, h1, Bool.not_false]
    refine EvC.ret ?_
    exact leave_one rfl (by simp only [Tr.get_put, Nat.reduceEqDiff, reduceCtorEq, if_true, if_false]; rfl) ⟨by unfold flB; rw [h1]; rfl, HX.refl hw⟩
end Go.Proofs.YtlllbkjiadcloaaDoor.hb
end

-- W9
section
/- Floats, the plain law: the program's tests and the reference's are one. -/
namespace Go.Proofs.YtlllbkjiadcloaaDoor.hb
open Go Go.RowKit Go.Hb

theorem wrap_u64_nat (q : Nat) (h : q < 18446744073709551616) : IntKind.u64.wrap (q : Int) = (q : Int) := by
  rw [IntKind.wrap_u64]; omega
theorem iAnd_low (q : Nat) (h : q < 18446744073709551616) : iAnd .u64 (q : Int) 2047 = ((q % 2048 : Nat) : Int) := by
  unfold iAnd
  have e : (BitVec.ofInt IntKind.u64.bits (q : Int) &&& BitVec.ofInt IntKind.u64.bits 2047).toNat = q % 2048 := by
    rw [BitVec.toNat_and]
    have h1 : (BitVec.ofInt IntKind.u64.bits (q : Int)).toNat = q := by
      rw [BitVec.ofInt_natCast, BitVec.toNat_ofNat]
      exact Nat.mod_eq_of_lt h
    have h2 : (BitVec.ofInt IntKind.u64.bits 2047).toNat = 2047 := rfl
    rw [h1, h2]
    exact Nat.and_two_pow_sub_one_eq_mod q 11
  rw [e, wrap_u64_nat _ (by omega)]
theorem absN_eq (m : Nat) (h : m < 18446744073709551616) : absN m = m % 9223372036854775808 := by
  unfold absN iAndNot
  have e : (BitVec.ofInt IntKind.u64.bits (m : Int) &&& ~~~BitVec.ofInt IntKind.u64.bits 9223372036854775808).toNat = m % 9223372036854775808 := by
    rw [BitVec.toNat_and]
    have h1 : (BitVec.ofInt IntKind.u64.bits (m : Int)).toNat = m := by
      rw [BitVec.ofInt_natCast, BitVec.toNat_ofNat]
      exact Nat.mod_eq_of_lt h
    have h2 : (~~~BitVec.ofInt IntKind.u64.bits 9223372036854775808).toNat = 9223372036854775807 := rfl
    rw [h1, h2]
    exact Nat.and_two_pow_sub_one_eq_mod m 63
  rw [e, wrap_u64_nat _ (by omega)]
  exact Int.toNat_natCast _

theorem read_eq (w : Nat) : Ieee.double.read w =
    if w % 9223372036854775808 < 4503599627370496 then .number (w / 9223372036854775808 % 2 == 1) (w % 9223372036854775808) (-1074)
    else if w % 9223372036854775808 < 9218868437227405312 then .number (w / 9223372036854775808 % 2 == 1) (4503599627370496 + w % 9223372036854775808 % 4503599627370496) (-1074 + ((w % 9223372036854775808 / 4503599627370496 - 1 : Nat) : Int))
    else if w % 9223372036854775808 = 9218868437227405312 then .infinity (w / 9223372036854775808 % 2 == 1)
    else .nan (w / 9223372036854775808 % 2 == 1) (w % 9223372036854775808 - 9218868437227405312) := rfl

theorem fnB_eq (m : Nat) : (FloatKind.f64.format.order m m != some .eq) = decide (9218868437227405312 < m % 9223372036854775808) := by
  show (Ieee.Datum.order (Ieee.double.read m) (Ieee.double.read m) != some .eq) = _
  rw [read_eq]
  split
  · rename_i h
    rw [decide_eq_false (by omega)]
    simp [Ieee.Datum.order]
  · split
    · rename_i h
      rw [decide_eq_false (by omega)]
      simp [Ieee.Datum.order]
    · split
      · rename_i h
        rw [decide_eq_false (by omega)]
        simp [Ieee.Datum.order]
      · rw [decide_eq_true (by omega)]
        simp [Ieee.Datum.order]

theorem shl_ge (m k : Nat) : m ≤ m <<< k := by
  rw [Nat.shiftLeft_eq]
  exact Nat.le_mul_of_pos_right m (Nat.two_pow_pos k)

theorem fiB_eq (g : Nat) (hg : g < 9223372036854775808) : (FloatKind.f64.format.order g 9218868437227405311 == some .gt) = decide (g = 9218868437227405312) := by
  show (Ieee.Datum.order (Ieee.double.read g) (Ieee.double.read 9218868437227405311) == some .gt) = _
  have hM : Ieee.double.read 9218868437227405311 = .number false 9007199254740991 971 := by rw [read_eq]; rfl
  have hmod : g % 9223372036854775808 = g := Nat.mod_eq_of_lt hg
  have hneg : (g / 9223372036854775808 % 2 == 1) = false := by
    rw [Nat.div_eq_of_lt hg]; rfl
  have key : ∀ (m : Nat) (p : Int), m ≤ 9007199254740991 → p ≤ 971 → (Ieee.Datum.order (.number false m p) (.number false 9007199254740991 971) == some .gt) = false := by
    intro m p hm hp
    simp only [Ieee.Datum.order, Ieee.signed]
    have h1 : min p 971 = p := by omega
    rw [h1]
    have h2 : (p - p).toNat = 0 := by omega
    rw [h2]
    have hle := shl_ge 9007199254740991 (971 - p).toNat
    have hng : compare ((m <<< 0 : Nat) : Int) ((9007199254740991 <<< (971 - p).toNat : Nat) : Int) ≠ .gt := by
      rw [Ne, Int.compare_eq_gt]
      have : m <<< 0 = m := rfl
      rw [this]
      omega
    simpa using hng
  rw [read_eq, hM, hmod, hneg]
  split
  · rename_i h
    rw [decide_eq_false (by omega)]
    exact key _ _ (by omega) (by omega)
  · split
    · rename_i h
      rw [decide_eq_false (by omega)]
      exact key _ _ (by omega) (by omega)
    · split
      · rename_i h
        rw [decide_eq_true h]
        rfl
      · rename_i h
        rw [decide_eq_false h]
        rfl

theorem floats_same (n : Int) (hn : u64 n) : flB n = !(fnB n || fiB n || n == 9223372036854775808) := by
  obtain ⟨m, rfl⟩ : ∃ m : Nat, n = m := ⟨n.toNat, by unfold u64 at hn; omega⟩
  have hm : m < 18446744073709551616 := by unfold u64 at hn; omega
  unfold flB fnB fiB
  have hd : (m : Int).fdiv (2 ^ (min (Int.toNat 52) IntKind.u64.bits)) = ((m / 4503599627370496 : Nat) : Int) := by
    show (m : Int).fdiv 4503599627370496 = _
    rw [Int.fdiv_eq_ediv_of_nonneg _ (by omega)]; rfl
  rw [hd, iAnd_low _ (by omega), Int.toNat_natCast, fnB_eq, absN_eq m hm, fiB_eq _ (Nat.mod_lt _ (by omega))]
  have hc : ((((m / 4503599627370496 % 2048 : Nat) : Int) == 2047)) = (decide (9218868437227405312 < m % 9223372036854775808) || decide (m % 9223372036854775808 = 9218868437227405312)) := by
    rw [Bool.eq_iff_iff]
    simp only [beq_iff_eq, Bool.or_eq_true, decide_eq_true_eq]
    omega
  rw [hc]
  cases decide (9218868437227405312 < m % 9223372036854775808) <;> cases decide (m % 9223372036854775808 = 9218868437227405312) <;> cases ((m : Int) == 9223372036854775808) <;> rfl
end Go.Proofs.YtlllbkjiadcloaaDoor.hb
end

-- X1
section
/- Texts: the rules are Sop3's. -/
namespace Go.Proofs.YtlllbkjiadcloaaDoor.hb
end Go.Proofs.YtlllbkjiadcloaaDoor.hb
end

-- X2
section
/- UTF-8, plainly: the reference's way of telling, and the library's. -/
namespace Go.Hb
open Go.Lib

def contR : Nat → List UInt8 → Nat → Option Nat
  | 0, _, c => some c
  | _ + 1, [], _ => none
  | n + 1, b :: l, c => if b.toNat < 128 ∨ 192 ≤ b.toNat then none else contR n l (c * 64 + b.toNat - 128)
def leadR (b : Nat) : Option (Nat × Nat × Nat) :=
  if 192 ≤ b ∧ b < 224 then some (1, 128, b - 192) else if 224 ≤ b ∧ b < 240 then some (2, 2048, b - 224) else if 240 ≤ b ∧ b < 248 then some (3, 65536, b - 240) else none
abbrev badR (lo c : Nat) : Prop := c < lo ∨ 1114111 < c ∨ (55296 ≤ c ∧ c < 57344)
def stepR (l : List UInt8) : Option Nat :=
  match l with
  | [] => none
  | b :: l => match leadR b.toNat with
    | none => none
    | some (n, lo, c) => match contR n l c with
      | none => none
      | some c => if badR lo c then none else some (n + 1)
def utfR : Nat → List UInt8 → Bool
  | 0, _ => true
  | _ + 1, [] => true
  | k + 1, b :: l => if b.toNat < 128 then utfR k l else match stepR (b :: l) with
    | none => false
    | some n => utfR k ((b :: l).drop n)


/-- the step, over numbers: n bytes are there -/
def stepN (n m b1 b2 b3 : Nat) : Option Nat :=
  if 192 ≤ m ∧ m < 224 then (if n < 2 ∨ b1 < 128 ∨ 192 ≤ b1 then none else if badR 128 ((m - 192) * 64 + b1 - 128) then none else some 2)
  else if 224 ≤ m ∧ m < 240 then (if n < 3 ∨ b1 < 128 ∨ 192 ≤ b1 ∨ b2 < 128 ∨ 192 ≤ b2 then none else if badR 2048 (((m - 224) * 64 + b1 - 128) * 64 + b2 - 128) then none else some 3)
  else if 240 ≤ m ∧ m < 248 then (if n < 4 ∨ b1 < 128 ∨ 192 ≤ b1 ∨ b2 < 128 ∨ 192 ≤ b2 ∨ b3 < 128 ∨ 192 ≤ b3 then none else if badR 65536 ((((m - 240) * 64 + b1 - 128) * 64 + b2 - 128) * 64 + b3 - 128) then none else some 4)
  else none
theorem cont1 (l : List UInt8) (c : Nat) : contR 1 l c = if l.length + 1 < 2 ∨ (l.getD 0 0).toNat < 128 ∨ 192 ≤ (l.getD 0 0).toNat then none else some (c * 64 + (l.getD 0 0).toNat - 128) := by
  cases l with
  | nil => simp [contR]
  | cons b l =>
    simp only [contR, List.length_cons, List.getD_cons_zero]
    repeat' split
    all_goals first | rfl | (exfalso; omega)
theorem cont2 (l : List UInt8) (c : Nat) : contR 2 l c = if l.length + 1 < 3 ∨ (l.getD 0 0).toNat < 128 ∨ 192 ≤ (l.getD 0 0).toNat ∨ (l.getD 1 0).toNat < 128 ∨ 192 ≤ (l.getD 1 0).toNat then none else some ((c * 64 + (l.getD 0 0).toNat - 128) * 64 + (l.getD 1 0).toNat - 128) := by
  match l with
  | [] => simp [contR]
  | [b] => simp [contR]
  | a :: b :: l =>
    simp only [contR, List.length_cons, List.getD_cons_zero, List.getD_cons_succ]
    repeat' split
    all_goals first | rfl | (exfalso; omega)
theorem cont3 (l : List UInt8) (c : Nat) : contR 3 l c = if l.length + 1 < 4 ∨ (l.getD 0 0).toNat < 128 ∨ 192 ≤ (l.getD 0 0).toNat ∨ (l.getD 1 0).toNat < 128 ∨ 192 ≤ (l.getD 1 0).toNat ∨ (l.getD 2 0).toNat < 128 ∨ 192 ≤ (l.getD 2 0).toNat then none
    else some (((c * 64 + (l.getD 0 0).toNat - 128) * 64 + (l.getD 1 0).toNat - 128) * 64 + (l.getD 2 0).toNat - 128) := by
  match l with
  | [] => simp [contR]
  | [b] => simp [contR]
  | [a, b] => simp [contR]
  | a :: b :: e :: l =>
    simp only [contR, List.length_cons, List.getD_cons_zero, List.getD_cons_succ]
    repeat' split
    all_goals first | rfl | (exfalso; omega)
theorem mif {C : Prop} [Decidable C] (x lo k : Nat) : (match (if C then (none : Option Nat) else some x) with | none => none | some c => if badR lo c then none else some k) = if C then none else if badR lo x then none else some k := by
  by_cases h : C <;> simp [h]
theorem stepR_N (b : UInt8) (l : List UInt8) : stepR (b :: l) = stepN (b :: l).length b.toNat ((b :: l).getD 1 0).toNat ((b :: l).getD 2 0).toNat ((b :: l).getD 3 0).toNat := by
  unfold stepR stepN leadR
  simp only [List.length_cons, List.getD_cons_succ]
  by_cases h1 : 192 ≤ b.toNat ∧ b.toNat < 224
  · simp only [if_pos h1]
    rw [cont1]; exact mif ..
  · simp only [if_neg h1]
    by_cases h2 : 224 ≤ b.toNat ∧ b.toNat < 240
    · simp only [if_pos h2]
      rw [cont2]; exact mif ..
    · simp only [if_neg h2]
      by_cases h3 : 240 ≤ b.toNat ∧ b.toNat < 248
      · simp only [if_pos h3]
        rw [cont3]; exact mif ..
      · simp only [if_neg h3]
theorem stepN_check (n m b1 b2 b3 : Nat) (h : ¬ m < 128) (hb : m < 256) (h1 : b1 < 256) (h2 : b2 < 256) (h3 : b3 < 256) :
    stepN n m b1 b2 b3 = checkN n b1 b2 b3 (firstT m % 8) (accLo (firstT m / 16)) (accHi (firstT m / 16)) := by
  have key : ∀ (f : Nat), firstT m = f → stepN n m b1 b2 b3 = checkN n b1 b2 b3 (f % 8) (accLo (f / 16)) (accHi (f / 16)) → 
      stepN n m b1 b2 b3 = checkN n b1 b2 b3 (firstT m % 8) (accLo (firstT m / 16)) (accHi (firstT m / 16)) := by
    rintro f rfl h; exact h
  by_cases c0 : m < 194
  · refine key 241 (by simp [firstT, h, c0]) ?_
    unfold stepN badR
    simp only [accLo, accHi, checkN, Nat.reduceMod, Nat.reduceDiv, Nat.reduceEqDiff, reduceIte]
    repeat' split
    all_goals first | (exfalso; omega) | rfl
  by_cases c1 : m < 224
  · refine key 2 (by simp [firstT, h, c0, c1]) ?_
    unfold stepN badR
    simp only [accLo, accHi, checkN, Nat.reduceMod, Nat.reduceDiv, Nat.reduceEqDiff, reduceIte]
    repeat' split
    all_goals first | (exfalso; omega) | rfl
  by_cases c2 : m = 224
  · subst c2
    refine key 19 (by decide) ?_
    unfold stepN badR
    simp only [accLo, accHi, checkN, Nat.reduceMod, Nat.reduceDiv, Nat.reduceEqDiff, reduceIte]
    repeat' split
    all_goals first | (exfalso; omega) | rfl
  by_cases c3 : m < 237
  · refine key 3 (by simp [firstT, h, c0, c1, c2, c3]) ?_
    unfold stepN badR
    simp only [accLo, accHi, checkN, Nat.reduceMod, Nat.reduceDiv, Nat.reduceEqDiff, reduceIte]
    repeat' split
    all_goals first | (exfalso; omega) | rfl
  by_cases c4 : m = 237
  · subst c4
    refine key 35 (by decide) ?_
    unfold stepN badR
    simp only [accLo, accHi, checkN, Nat.reduceMod, Nat.reduceDiv, Nat.reduceEqDiff, reduceIte]
    repeat' split
    all_goals first | (exfalso; omega) | rfl
  by_cases c5 : m < 240
  · refine key 3 (by simp [firstT, h, c0, c1, c2, c3, c4, c5]) ?_
    unfold stepN badR
    simp only [accLo, accHi, checkN, Nat.reduceMod, Nat.reduceDiv, Nat.reduceEqDiff, reduceIte]
    repeat' split
    all_goals first | (exfalso; omega) | rfl
  by_cases c6 : m = 240
  · subst c6
    refine key 52 (by decide) ?_
    unfold stepN badR
    simp only [accLo, accHi, checkN, Nat.reduceMod, Nat.reduceDiv, Nat.reduceEqDiff, reduceIte]
    repeat' split
    all_goals first | (exfalso; omega) | rfl
  by_cases c7 : m < 244
  · refine key 4 (by simp [firstT, h, c0, c1, c2, c3, c4, c5, c6, c7]) ?_
    unfold stepN badR
    simp only [accLo, accHi, checkN, Nat.reduceMod, Nat.reduceDiv, Nat.reduceEqDiff, reduceIte]
    repeat' split
    all_goals first | (exfalso; omega) | rfl
  by_cases c8 : m = 244
  · subst c8
    refine key 68 (by decide) ?_
    unfold stepN badR
    simp only [accLo, accHi, checkN, Nat.reduceMod, Nat.reduceDiv, Nat.reduceEqDiff, reduceIte]
    repeat' split
    all_goals first | (exfalso; omega) | rfl
  refine key 241 (by simp [firstT, h, c0, c1, c2, c3, c4, c5, c6, c7, c8]) ?_
  unfold stepN badR
  simp only [accLo, accHi, checkN, Nat.reduceMod, Nat.reduceDiv, Nat.reduceEqDiff, reduceIte]
  repeat' split
  all_goals first | (exfalso; omega) | rfl
theorem stepR_pos {l : List UInt8} {n : Nat} (h : stepR l = some n) : 1 ≤ n := by
  unfold stepR at h
  split at h
  · cases h
  · split at h
    · cases h
    · split at h
      · cases h
      · split at h
        · cases h
        · cases h; omega
theorem utfR_valid : ∀ (k : Nat) (l : List UInt8), l.length ≤ k → utfR k l = validD l
  | 0, [], _ => rfl
  | 0, _ :: _, h => by simp at h
  | k + 1, [], _ => rfl
  | k + 1, b :: l, h => by
    rw [utfR]
    split
    · rename_i hb
      rw [validD_cons b l hb]
      exact utfR_valid k l (by simpa using h)
    · rename_i hb
      rw [validD_lead (b :: l) (by simp) (by simpa using Nat.not_lt.1 hb), stepR_N, stepN_check _ _ _ _ _ hb b.toNat_lt (UInt8.toNat_lt _) (UInt8.toNat_lt _) (UInt8.toNat_lt _)]
      have he : stepR (b :: l) = _ := stepR_N b l
      rw [stepN_check _ _ _ _ _ hb b.toNat_lt (UInt8.toNat_lt _) (UInt8.toNat_lt _) (UInt8.toNat_lt _)] at he
      simp only [List.getD_cons_zero]
      cases hc : checkN (b :: l).length ((b :: l).getD 1 0).toNat ((b :: l).getD 2 0).toNat ((b :: l).getD 3 0).toNat (firstT b.toNat % 8) (accLo (firstT b.toNat / 16)) (accHi (firstT b.toNat / 16)) with
      | none => rfl
      | some n =>
        rw [hc] at he
        have hp := stepR_pos he
        refine utfR_valid k _ ?_
        rw [List.length_drop]
        simp at h ⊢
        omega
end Go.Hb
end

-- X3
section
/- UTF-8: the reference's function. -/
namespace Go.Proofs.YtlllbkjiadcloaaDoor.hb
open Go Go.RowKit Go.Hb

theorem toNat_at (s : ByteArray) (i : Nat) (h : i < s.size) : s.data.toList.drop i = (s[i]'h) :: s.data.toList.drop (i + 1) := by
  have h' : i < s.data.toList.length := by simpa using h
  rw [List.drop_eq_getElem_cons h']
  rfl
theorem len_bytes (s : ByteArray) : s.data.toList.length = s.size := by simp

theorem lead_le {m n lo c : Nat} (h : leadR m = some (n, lo, c)) : 1 ≤ n ∧ n ≤ 3 ∧ c < 32 ∧ lo ≤ 65536 := by
  unfold leadR at h
  split at h
  · cases h; omega
  · split at h
    · cases h; omega
    · split at h
      · cases h; omega
      · cases h

variable {ok : Ok}
set_option maxRecDepth 10000
set_option maxHeartbeats 4000000 in
theorem utf_ref_ev (hk : ∀ args H, ok.K 105 args H = none) (hm : ok.testBit 105 = true) : TellsS ok 105 fun s => utfR s.size s.data.toList := by
  intro s H hs hw
  have hs' : s.size ≤ 9223372036854775807 := hs
  refine EvF.enter (hk _ _) Tryd.func105 hm rfl ?_
  (repeat refine EvC.seq ?_); refine EvC.reg ?_; simp (config := { maxSteps := 2000000 }) (disch := first | omega | rfl) only [sA, initTm]
  (repeat refine EvC.seq ?_); refine EvC.reg ?_; simp (config := { maxSteps := 2000000 }) (disch := first | omega | rfl) only [sA]
  (repeat refine EvC.seq ?_)
  refine EvC.block (EvC.loop (fun k st => ∃ tm i, st = ⟨tm, [], H⟩ ∧ k = s.size - i ∧ i ≤ s.size ∧ utfR (s.size - i) (s.data.toList.drop i) = utfR s.size s.data.toList ∧ tm.get 0 = some (.string s) ∧ tm.get 3 = some (.int .i64 (i : Nat))) ?_ s.size _ ?_)
  · rintro k st ⟨tm, i, rfl, hk', hi, hc, g0, g3⟩
    (repeat refine EvC.seq ?_); refine EvC.reg ?_; simp (config := { maxSteps := 2000000 }) (disch := first | omega | rfl) only [sA, Nat.reduceEqDiff, reduceCtorEq, if_true, if_false, g0, g3, dLn_string Tryd.underlying9]
    by_cases hlt : i < s.size
    · refine EvC.condT (by simp only [sA, Nat.reduceEqDiff, if_true, if_false]; exact congrArg _ (decide_eq_true (by omega))) (EvC.skip ?_)
      try simp (config := { maxSteps := 2000000 }) (disch := first | omega | rfl) only [thenC_normal]
      refine EvC.block ?_
      have hat := toNat_at s i hlt
      have hbt := (s[i]'hlt).toNat_lt
      obtain ⟨m, hm'⟩ : ∃ m, m = (s[i]'hlt).toNat := ⟨_, rfl⟩
      rw [← hm'] at hbt
      have hmB : byteAt s i = m := by rw [byteAt_get s i hlt, hm']
      have hf : s.size - i = (s.size - (i + 1)) + 1 := by omega
      rw [hf, hat, utfR, ← hm'] at hc
      (repeat refine EvC.seq ?_); refine EvC.reg ?_; simp (config := { maxSteps := 2000000 }) (disch := first | omega | rfl) only [sA, Nat.reduceEqDiff, reduceCtorEq, if_true, if_false, g0, g3, dIdx_byte Tryd.underlying9 hlt, hmB]
      (repeat refine EvC.seq ?_); refine EvC.reg ?_; simp (config := { maxSteps := 2000000 }) (disch := first | omega | rfl) only [sA]
      (repeat refine EvC.seq ?_); refine EvC.reg ?_; simp (config := { maxSteps := 2000000 }) (disch := first | omega | rfl) only [sA]
      (repeat refine EvC.seq ?_); refine EvC.reg ?_; simp (config := { maxSteps := 2000000 }) (disch := first | omega | rfl) only [sA]
      (repeat refine EvC.seq ?_); refine EvC.reg ?_; simp (config := { maxSteps := 2000000 }) (disch := first | omega | rfl) only [sA, Nat.reduceEqDiff, if_true, if_false]
      refine EvC.frame (fun tm => tm.get 0 = some (.string s) ∧ tm.get 3 = some (.int .i64 (i : Nat)) ∧ tm.get 4 = some (.int .u8 (m : Nat)) ∧ tm.get 17 = some (.bool (decide ((m : Int) < 128)))) ⟨by simp only [Tr.get_put, reduceCtorEq, if_false]; exact g0, by simp only [Tr.get_put, Nat.reduceEqDiff, if_false]; exact g3, by simp only [Tr.get_put, Nat.reduceEqDiff, if_true, if_false], by simp only [Tr.get_put, Nat.reduceEqDiff, if_true, if_false]⟩ ?_
      clear g0 g3 tm
      rintro tm ⟨g0, g3, g4, g17⟩
      (repeat refine EvC.seq ?_)
      by_cases hasc : m < 128
      · refine EvC.condT (by simp only [sA, g17, decide_eq_true (show (m : Int) < 128 by omega)]) ?_
        (repeat refine EvC.seq ?_); refine EvC.reg ?_; simp (config := { maxSteps := 2000000 }) (disch := first | omega | rfl) only [sA, Nat.reduceEqDiff, if_true, if_false, g3, wrap_i64]
        refine EvC.exit ?_
        try simp (config := { maxSteps := 2000000 }) (disch := first | omega | rfl) only [sA, reduceCtorEq, if_true, if_false]
        refine ⟨s.size - (i + 1), by omega, _, i + 1, rfl, rfl, by omega, by rw [← hc, if_pos hasc], by simp only [Tr.get_put, reduceCtorEq, if_false]; exact g0, by simp only [Tr.get_put, Nat.reduceEqDiff, if_true, if_false]; rfl⟩
      rw [if_neg hasc] at hc
      refine EvC.condF (by simp only [sA, g17, decide_eq_false (show ¬ (m : Int) < 128 by omega)]) ?_
      refine EvC.join (fun st => ∃ n lo c tm, leadR m = some (n, lo, c) ∧ st = ⟨tm, [], H⟩ ∧ tm.get 0 = some (.string s) ∧ tm.get 3 = some (.int .i64 (i : Nat)) ∧ tm.get 5 = some (.int .i64 (n : Nat)) ∧ tm.get 6 = some (.int .i64 (lo : Nat)) ∧ tm.get 7 = some (.int .i64 (c : Nat))) ?_ ?_
      · have hcs : m < 192 ∨ (192 ≤ m ∧ m < 224) ∨ (224 ≤ m ∧ m < 240) ∨ (240 ≤ m ∧ m < 248) ∨ 248 ≤ m := by omega
        rcases hcs with h | ⟨h, h'⟩ | ⟨h, h'⟩ | ⟨h, h'⟩ | h
        · have q1 : decide ((m : Int) ≥ 192) = false := decide_eq_false (by omega)
          have q3 : decide ((m : Int) ≥ 224) = false := decide_eq_false (by omega)
          have q5 : decide ((m : Int) ≥ 240) = false := decide_eq_false (by omega)
          have hl : leadR m = none := by unfold leadR; rw [if_neg (by omega), if_neg (by omega), if_neg (by omega)]
          (repeat refine EvC.seq ?_); refine EvC.reg ?_; simp (config := { maxSteps := 2000000 }) (disch := first | omega | rfl) only [sA, Nat.reduceEqDiff, if_true, if_false, g4, q1, Bool.false_eq_true]
          (repeat refine EvC.seq ?_); refine EvC.condF (by simp only [sA, Nat.reduceEqDiff, if_true, if_false]) ?_
          (repeat refine EvC.seq ?_); refine EvC.reg ?_; simp (config := { maxSteps := 2000000 }) (disch := first | omega | rfl) only [sA, Nat.reduceEqDiff, if_true, if_false, g4, q3, Bool.false_eq_true]
          (repeat refine EvC.seq ?_); refine EvC.condF (by simp only [sA, Nat.reduceEqDiff, if_true, if_false]) ?_
          (repeat refine EvC.seq ?_); refine EvC.reg ?_; simp (config := { maxSteps := 2000000 }) (disch := first | omega | rfl) only [sA, Nat.reduceEqDiff, if_true, if_false, g4, q5, Bool.false_eq_true]
          (repeat refine EvC.seq ?_); refine EvC.condF (by simp only [sA, Nat.reduceEqDiff, if_true, if_false]) ?_
          (repeat refine EvC.seq ?_); refine EvC.reg ?_; simp (config := { maxSteps := 2000000 }) (disch := first | omega | rfl) only [sA]
          refine EvC.ret ?_
          try simp (config := { maxSteps := 2000000 }) (disch := first | omega | rfl) only [sA]
          exact leave_one rfl (by simp only [Tr.get_put, Nat.reduceEqDiff, if_true, if_false]; rfl) ⟨by rw [← hc]; simp only [stepR, ← hm', hl], HX.refl hw⟩
        · have q1 : decide ((m : Int) ≥ 192) = true := decide_eq_true (by omega)
          have q2 : decide ((m : Int) < 224) = true := decide_eq_true (by omega)
          have hl : leadR m = some (1, 128, m - 192) := by unfold leadR; rw [if_pos (by omega)]
          (repeat refine EvC.seq ?_); refine EvC.reg ?_; simp (config := { maxSteps := 2000000 }) (disch := first | omega | rfl) only [sA, Nat.reduceEqDiff, if_true, if_false, g4, q1, q2]
          (repeat refine EvC.seq ?_); refine EvC.condT (by simp only [sA, Nat.reduceEqDiff, if_true, if_false]) ?_
          (repeat refine EvC.seq ?_); refine EvC.reg ?_; simp (config := { maxSteps := 2000000 }) (disch := first | omega | rfl) only [sA]
          (repeat refine EvC.seq ?_); refine EvC.reg ?_; simp (config := { maxSteps := 2000000 }) (disch := first | omega | rfl) only [sA]
          (repeat refine EvC.seq ?_); refine EvC.reg ?_; simp (config := { maxSteps := 2000000 }) (disch := first | omega | rfl) only [sA, Nat.reduceEqDiff, if_true, if_false, g4, dCon_int Tryd.underlying5 Tryd.underlying3, wrap_i64]
          exact ⟨1, 128, m - 192, _, hl, rfl, by simp only [Tr.get_put, reduceCtorEq, if_false]; exact g0, by simp only [Tr.get_put, Nat.reduceEqDiff, if_false]; exact g3, by simp only [Tr.get_put, Nat.reduceEqDiff, if_true, if_false]; rfl, by simp only [Tr.get_put, Nat.reduceEqDiff, if_true, if_false]; rfl, by simp only [Tr.get_put, Nat.reduceEqDiff, if_true, if_false]; exact congrArg (fun z => some (Value.int .i64 z)) (by omega)⟩
        · have q1 : decide ((m : Int) ≥ 192) = true := decide_eq_true (by omega)
          have q2 : decide ((m : Int) < 224) = false := decide_eq_false (by omega)
          have q3 : decide ((m : Int) ≥ 224) = true := decide_eq_true (by omega)
          have q4 : decide ((m : Int) < 240) = true := decide_eq_true (by omega)
          have hl : leadR m = some (2, 2048, m - 224) := by unfold leadR; rw [if_neg (by omega), if_pos (by omega)]
          (repeat refine EvC.seq ?_); refine EvC.reg ?_; simp (config := { maxSteps := 2000000 }) (disch := first | omega | rfl) only [sA, Nat.reduceEqDiff, if_true, if_false, g4, q1, q2]
          (repeat refine EvC.seq ?_); refine EvC.condF (by simp only [sA, Nat.reduceEqDiff, if_true, if_false]) ?_
          (repeat refine EvC.seq ?_); refine EvC.reg ?_; simp (config := { maxSteps := 2000000 }) (disch := first | omega | rfl) only [sA, Nat.reduceEqDiff, if_true, if_false, g4, q3, q4]
          (repeat refine EvC.seq ?_); refine EvC.condT (by simp only [sA, Nat.reduceEqDiff, if_true, if_false]) ?_
          (repeat refine EvC.seq ?_); refine EvC.reg ?_; simp (config := { maxSteps := 2000000 }) (disch := first | omega | rfl) only [sA]
          (repeat refine EvC.seq ?_); refine EvC.reg ?_; simp (config := { maxSteps := 2000000 }) (disch := first | omega | rfl) only [sA]
          (repeat refine EvC.seq ?_); refine EvC.reg ?_; simp (config := { maxSteps := 2000000 }) (disch := first | omega | rfl) only [sA, Nat.reduceEqDiff, if_true, if_false, g4, dCon_int Tryd.underlying5 Tryd.underlying3, wrap_i64]
          exact ⟨2, 2048, m - 224, _, hl, rfl, by simp only [Tr.get_put, reduceCtorEq, if_false]; exact g0, by simp only [Tr.get_put, Nat.reduceEqDiff, if_false]; exact g3, by simp only [Tr.get_put, Nat.reduceEqDiff, if_true, if_false]; rfl, by simp only [Tr.get_put, Nat.reduceEqDiff, if_true, if_false]; rfl, by simp only [Tr.get_put, Nat.reduceEqDiff, if_true, if_false]; exact congrArg (fun z => some (Value.int .i64 z)) (by omega)⟩
        · have q1 : decide ((m : Int) ≥ 192) = true := decide_eq_true (by omega)
          have q2 : decide ((m : Int) < 224) = false := decide_eq_false (by omega)
          have q3 : decide ((m : Int) ≥ 224) = true := decide_eq_true (by omega)
          have q4 : decide ((m : Int) < 240) = false := decide_eq_false (by omega)
          have q5 : decide ((m : Int) ≥ 240) = true := decide_eq_true (by omega)
          have q6 : decide ((m : Int) < 248) = true := decide_eq_true (by omega)
          have hl : leadR m = some (3, 65536, m - 240) := by unfold leadR; rw [if_neg (by omega), if_neg (by omega), if_pos (by omega)]
          (repeat refine EvC.seq ?_); refine EvC.reg ?_; simp (config := { maxSteps := 2000000 }) (disch := first | omega | rfl) only [sA, Nat.reduceEqDiff, if_true, if_false, g4, q1, q2]
          (repeat refine EvC.seq ?_); refine EvC.condF (by simp only [sA, Nat.reduceEqDiff, if_true, if_false]) ?_
          (repeat refine EvC.seq ?_); refine EvC.reg ?_; simp (config := { maxSteps := 2000000 }) (disch := first | omega | rfl) only [sA, Nat.reduceEqDiff, if_true, if_false, g4, q3, q4]
          (repeat refine EvC.seq ?_); refine EvC.condF (by simp only [sA, Nat.reduceEqDiff, if_true, if_false]) ?_
          (repeat refine EvC.seq ?_); refine EvC.reg ?_; simp (config := { maxSteps := 2000000 }) (disch := first | omega | rfl) only [sA, Nat.reduceEqDiff, if_true, if_false, g4, q5, q6]
          (repeat refine EvC.seq ?_); refine EvC.condT (by simp only [sA, Nat.reduceEqDiff, if_true, if_false]) ?_
          (repeat refine EvC.seq ?_); refine EvC.reg ?_; simp (config := { maxSteps := 2000000 }) (disch := first | omega | rfl) only [sA]
          (repeat refine EvC.seq ?_); refine EvC.reg ?_; simp (config := { maxSteps := 2000000 }) (disch := first | omega | rfl) only [sA]
          (repeat refine EvC.seq ?_); refine EvC.reg ?_; simp (config := { maxSteps := 2000000 }) (disch := first | omega | rfl) only [sA, Nat.reduceEqDiff, if_true, if_false, g4, dCon_int Tryd.underlying5 Tryd.underlying3, wrap_i64]
          exact ⟨3, 65536, m - 240, _, hl, rfl, by simp only [Tr.get_put, reduceCtorEq, if_false]; exact g0, by simp only [Tr.get_put, Nat.reduceEqDiff, if_false]; exact g3, by simp only [Tr.get_put, Nat.reduceEqDiff, if_true, if_false]; rfl, by simp only [Tr.get_put, Nat.reduceEqDiff, if_true, if_false]; rfl, by simp only [Tr.get_put, Nat.reduceEqDiff, if_true, if_false]; exact congrArg (fun z => some (Value.int .i64 z)) (by omega)⟩
        · have q1 : decide ((m : Int) ≥ 192) = true := decide_eq_true (by omega)
          have q2 : decide ((m : Int) < 224) = false := decide_eq_false (by omega)
          have q3 : decide ((m : Int) ≥ 224) = true := decide_eq_true (by omega)
          have q4 : decide ((m : Int) < 240) = false := decide_eq_false (by omega)
          have q5 : decide ((m : Int) ≥ 240) = true := decide_eq_true (by omega)
          have q6 : decide ((m : Int) < 248) = false := decide_eq_false (by omega)
          have hl : leadR m = none := by unfold leadR; rw [if_neg (by omega), if_neg (by omega), if_neg (by omega)]
          (repeat refine EvC.seq ?_); refine EvC.reg ?_; simp (config := { maxSteps := 2000000 }) (disch := first | omega | rfl) only [sA, Nat.reduceEqDiff, if_true, if_false, g4, q1, q2]
          (repeat refine EvC.seq ?_); refine EvC.condF (by simp only [sA, Nat.reduceEqDiff, if_true, if_false]) ?_
          (repeat refine EvC.seq ?_); refine EvC.reg ?_; simp (config := { maxSteps := 2000000 }) (disch := first | omega | rfl) only [sA, Nat.reduceEqDiff, if_true, if_false, g4, q3, q4]
          (repeat refine EvC.seq ?_); refine EvC.condF (by simp only [sA, Nat.reduceEqDiff, if_true, if_false]) ?_
          (repeat refine EvC.seq ?_); refine EvC.reg ?_; simp (config := { maxSteps := 2000000 }) (disch := first | omega | rfl) only [sA, Nat.reduceEqDiff, if_true, if_false, g4, q5, q6]
          (repeat refine EvC.seq ?_); refine EvC.condF (by simp only [sA, Nat.reduceEqDiff, if_true, if_false]) ?_
          (repeat refine EvC.seq ?_); refine EvC.reg ?_; simp (config := { maxSteps := 2000000 }) (disch := first | omega | rfl) only [sA]
          refine EvC.ret ?_
          try simp (config := { maxSteps := 2000000 }) (disch := first | omega | rfl) only [sA]
          exact leave_one rfl (by simp only [Tr.get_put, Nat.reduceEqDiff, if_true, if_false]; rfl) ⟨by rw [← hc]; simp only [stepR, ← hm', hl], HX.refl hw⟩
      rintro st ⟨n, lo, c, tm1, hlead, rfl, f0, f3, f5, f6, f7⟩
      clear g0 g3 g4 g17 tm
      try simp (config := { maxSteps := 2000000 }) (disch := first | omega | rfl) only [thenC_normal]
      have hle := lead_le hlead
      (repeat refine EvC.seq ?_); refine EvC.reg ?_; simp (config := { maxSteps := 2000000 }) (disch := first | omega | rfl) only [sA]
      (repeat refine EvC.seq ?_)
      refine EvC.join (fun st => ∃ c' tm, contR n (s.data.toList.drop (i + 1)) c = some c' ∧ c' < 8388608 ∧ i + 1 + n ≤ s.size ∧ st = ⟨tm, [], H⟩ ∧ tm.get 0 = some (.string s) ∧ tm.get 3 = some (.int .i64 (i : Nat)) ∧ tm.get 5 = some (.int .i64 (n : Nat)) ∧ tm.get 6 = some (.int .i64 (lo : Nat)) ∧ tm.get 7 = some (.int .i64 (c' : Nat))) ?_ ?_
      · refine EvC.block (EvC.loop (fun k st => ∃ tm j c', st = ⟨tm, [], H⟩ ∧ k = n - j ∧ j ≤ n ∧ ((j = 0 ∧ c' < 32) ∨ (j = 1 ∧ c' < 2048) ∨ (j = 2 ∧ c' < 131072) ∨ (j = 3 ∧ c' < 8388608)) ∧ i + 1 + j ≤ s.size ∧ contR (n - j) (s.data.toList.drop (i + 1 + j)) c' = contR n (s.data.toList.drop (i + 1)) c ∧ tm.get 0 = some (.string s) ∧ tm.get 3 = some (.int .i64 (i : Nat)) ∧ tm.get 5 = some (.int .i64 (n : Nat)) ∧ tm.get 6 = some (.int .i64 (lo : Nat)) ∧ tm.get 7 = some (.int .i64 (c' : Nat)) ∧ tm.get 8 = some (.int .i64 ((j + 1 : Nat) : Int))) ?_ n _ ?_)
        · rintro k st ⟨tm, j, c', rfl, hkj, hj, hcl, hij, hcc, e0, e3, e5, e6, e7, e8⟩
          have hcb : c' < 8388608 := by omega
          (repeat refine EvC.seq ?_); refine EvC.reg ?_; simp (config := { maxSteps := 2000000 }) (disch := first | omega | rfl) only [sA, Nat.reduceEqDiff, if_true, if_false, e5, e8]
          (repeat refine EvC.seq ?_)
          by_cases hjn : j + 1 ≤ n
          · refine EvC.condT (by simp only [sA, Nat.reduceEqDiff, if_true, if_false]; exact congrArg _ (decide_eq_true (by omega))) (EvC.skip ?_)
            try simp (config := { maxSteps := 2000000 }) (disch := first | omega | rfl) only [thenC_normal]
            refine EvC.seq ?_
            have hw1 : IntKind.i64.wrap ((i : Int) + ((j + 1 : Nat) : Int)) = ((i + 1 + j : Nat) : Int) := by rw [wrap_i64 (by omega) (by omega)]; omega
            have hnj : n - j = (n - (j + 1)) + 1 := by omega
            by_cases hend : i + 1 + j < s.size
            · have hat2 := toNat_at s (i + 1 + j) hend
              have hbt2 := (s[i + 1 + j]'hend).toNat_lt
              obtain ⟨b, hb'⟩ : ∃ b, b = (s[i + 1 + j]'hend).toNat := ⟨_, rfl⟩
              rw [← hb'] at hbt2
              have hbB : byteAt s (i + 1 + j) = b := by rw [byteAt_get s _ hend, hb']
              rw [hnj, hat2, contR, ← hb'] at hcc
              have q1 : decide (((i + 1 + j : Nat) : Int) ≥ (s.size : Int)) = false := decide_eq_false (by omega)
              refine EvC.block ?_
              by_cases hbad : b < 128 ∨ 192 ≤ b
              · rw [if_pos hbad] at hcc
                have hst : stepR (s[i] :: s.data.toList.drop (i + 1)) = none := by simp only [stepR, ← hm', hlead, ← hcc]
                have fin : utfR s.size s.data.toList = false := by rw [← hc, hst]
                by_cases h2 : b < 128
                · have q2 : decide ((b : Int) < 128) = true := decide_eq_true (by omega)
                  (repeat refine EvC.seq ?_); refine EvC.reg ?_; simp (config := { maxSteps := 2000000 }) (disch := first | omega | rfl) only [sA, Nat.reduceEqDiff, reduceCtorEq, if_true, if_false, e0, e3, e8, hw1, q1, q2, dLn_string Tryd.underlying9, dIdx_byte Tryd.underlying9 hend, hbB, Bool.false_eq_true]
                  (repeat refine EvC.seq ?_); refine EvC.condT (by simp only [sA, Nat.reduceEqDiff, if_true, if_false]) ?_
                  (repeat refine EvC.seq ?_); refine EvC.reg ?_; simp (config := { maxSteps := 2000000 }) (disch := first | omega | rfl) only [sA]
                  refine EvC.ret ?_
                  try simp (config := { maxSteps := 2000000 }) (disch := first | omega | rfl) only [sA]
                  exact leave_one rfl (by simp only [Tr.get_put, Nat.reduceEqDiff, if_true, if_false]; rfl) ⟨by rw [fin], HX.refl hw⟩
                · have q2 : decide ((b : Int) < 128) = false := decide_eq_false (by omega)
                  have q3 : decide ((b : Int) ≥ 192) = true := decide_eq_true (by omega)
                  (repeat refine EvC.seq ?_); refine EvC.reg ?_; simp (config := { maxSteps := 2000000 }) (disch := first | omega | rfl) only [sA, Nat.reduceEqDiff, reduceCtorEq, if_true, if_false, e0, e3, e8, hw1, q1, q2, q3, dLn_string Tryd.underlying9, dIdx_byte Tryd.underlying9 hend, hbB, Bool.false_eq_true]
                  (repeat refine EvC.seq ?_); refine EvC.condT (by simp only [sA, Nat.reduceEqDiff, if_true, if_false]) ?_
                  (repeat refine EvC.seq ?_); refine EvC.reg ?_; simp (config := { maxSteps := 2000000 }) (disch := first | omega | rfl) only [sA]
                  refine EvC.ret ?_
                  try simp (config := { maxSteps := 2000000 }) (disch := first | omega | rfl) only [sA]
                  exact leave_one rfl (by simp only [Tr.get_put, Nat.reduceEqDiff, if_true, if_false]; rfl) ⟨by rw [fin], HX.refl hw⟩
              · rw [if_neg hbad] at hcc
                have q2 : decide ((b : Int) < 128) = false := decide_eq_false (by omega)
                have q3 : decide ((b : Int) ≥ 192) = false := decide_eq_false (by omega)
                (repeat refine EvC.seq ?_); refine EvC.reg ?_; simp (config := { maxSteps := 2000000 }) (disch := first | omega | rfl) only [sA, Nat.reduceEqDiff, reduceCtorEq, if_true, if_false, e0, e3, e8, hw1, q1, q2, q3, dLn_string Tryd.underlying9, dIdx_byte Tryd.underlying9 hend, hbB, Bool.false_eq_true]
                (repeat refine EvC.seq ?_); refine EvC.condF (by simp only [sA, Nat.reduceEqDiff, if_true, if_false]) (EvC.skip ?_)
                try simp (config := { maxSteps := 2000000 }) (disch := first | omega | rfl) only [thenC_normal]
                (repeat refine EvC.seq ?_); refine EvC.reg ?_; simp (config := { maxSteps := 2000000 }) (disch := first | omega | rfl) only [sA, Nat.reduceEqDiff, reduceCtorEq, if_true, if_false, e0, e3, e7, e8, hw1, dIdx_byte Tryd.underlying9 hend, hbB, dCon_int Tryd.underlying5 Tryd.underlying3, wrap_i64]
                (repeat refine EvC.seq ?_); refine EvC.reg ?_; simp (config := { maxSteps := 2000000 }) (disch := first | omega | rfl) only [sA, Nat.reduceEqDiff, if_true, if_false, e8, wrap_i64]
                exact ⟨n - (j + 1), by omega, _, j + 1, c' * 64 + b - 128, rfl, rfl, hjn, by omega, by omega, hcc, by simp only [Tr.get_put, reduceCtorEq, if_false]; exact e0, by simp only [Tr.get_put, Nat.reduceEqDiff, if_false]; exact e3, by simp only [Tr.get_put, Nat.reduceEqDiff, if_false]; exact e5, by simp only [Tr.get_put, Nat.reduceEqDiff, if_false]; exact e6, by simp only [Tr.get_put, Nat.reduceEqDiff, if_true, if_false]; exact congrArg (fun z => some (Value.int .i64 z)) (by omega), by simp only [Tr.get_put, Nat.reduceEqDiff, if_true, if_false]; rfl⟩
            · have q1 : decide (((i + 1 + j : Nat) : Int) ≥ (s.size : Int)) = true := decide_eq_true (by omega)
              have hnil : s.data.toList.drop (i + 1 + j) = [] := List.drop_of_length_le (by rw [len_bytes]; omega)
              rw [hnj, hnil, contR] at hcc
              have hst : stepR (s[i] :: s.data.toList.drop (i + 1)) = none := by simp only [stepR, ← hm', hlead, ← hcc]
              have fin : utfR s.size s.data.toList = false := by rw [← hc, hst]
              refine EvC.block ?_
              (repeat refine EvC.seq ?_); refine EvC.reg ?_; simp (config := { maxSteps := 2000000 }) (disch := first | omega | rfl) only [sA, Nat.reduceEqDiff, reduceCtorEq, if_true, if_false, e0, e3, e8, hw1, q1, dLn_string Tryd.underlying9]
              (repeat refine EvC.seq ?_); refine EvC.condT (by simp only [sA, Nat.reduceEqDiff, if_true, if_false]) ?_
              (repeat refine EvC.seq ?_); refine EvC.reg ?_; simp (config := { maxSteps := 2000000 }) (disch := first | omega | rfl) only [sA]
              refine EvC.ret ?_
              try simp (config := { maxSteps := 2000000 }) (disch := first | omega | rfl) only [sA]
              exact leave_one rfl (by simp only [Tr.get_put, Nat.reduceEqDiff, if_true, if_false]; rfl) ⟨by rw [fin], HX.refl hw⟩
          · refine EvC.condF (by simp only [sA, Nat.reduceEqDiff, if_true, if_false]; exact congrArg _ (decide_eq_false (by omega))) (EvC.exit ?_)
            try simp (config := { maxSteps := 2000000 }) (disch := first | omega | rfl) only [sA, Nat.reduceEqDiff, reduceCtorEq, if_true, if_false]
            have hjn' : n - j = 0 := by omega
            have hjn2 : j = n := by omega
            rw [hjn', contR] at hcc
            exact ⟨c', _, hcc.symm, hcb, by omega, rfl, by simp only [Tr.get_put, reduceCtorEq, if_false]; exact e0, by simp only [Tr.get_put, Nat.reduceEqDiff, if_false]; exact e3, by simp only [Tr.get_put, Nat.reduceEqDiff, if_false]; exact e5, by simp only [Tr.get_put, Nat.reduceEqDiff, if_false]; exact e6, by simp only [Tr.get_put, Nat.reduceEqDiff, if_false]; exact e7⟩
        · exact ⟨_, 0, c, rfl, by omega, by omega, by omega, by omega, by simp only [Nat.sub_zero, Nat.add_zero], by simp only [Tr.get_put, reduceCtorEq, if_false]; exact f0, by simp only [Tr.get_put, Nat.reduceEqDiff, if_false]; exact f3, by simp only [Tr.get_put, Nat.reduceEqDiff, if_false]; exact f5, by simp only [Tr.get_put, Nat.reduceEqDiff, if_false]; exact f6, by simp only [Tr.get_put, Nat.reduceEqDiff, if_false]; exact f7, by simp only [sA, if_true]; rfl⟩
      rintro st ⟨c', tm, hcont, hcb, hin, rfl, e0, e3, e5, e6, e7⟩
      clear f0 f3 f5 f6 f7
      try simp (config := { maxSteps := 2000000 }) (disch := first | omega | rfl) only [thenC_normal]
      by_cases hbad : badR lo c'
      · have hst : stepR (s[i] :: s.data.toList.drop (i + 1)) = none := by simp only [stepR, ← hm', hlead, hcont, if_pos hbad]
        have fin : utfR s.size s.data.toList = false := by rw [← hc, hst]
        rcases hbad with h1 | h1
        · have q1 : decide ((c' : Int) < (lo : Int)) = true := decide_eq_true (by omega)
          (repeat refine EvC.seq ?_); refine EvC.reg ?_; simp (config := { maxSteps := 2000000 }) (disch := first | omega | rfl) only [sA, Nat.reduceEqDiff, if_true, if_false, e6, e7, q1]
          (repeat refine EvC.seq ?_); refine EvC.condT (by simp only [sA, Nat.reduceEqDiff, if_true, if_false]) ?_
          (repeat refine EvC.seq ?_); refine EvC.reg ?_; simp (config := { maxSteps := 2000000 }) (disch := first | omega | rfl) only [sA]
          refine EvC.ret ?_
          try simp (config := { maxSteps := 2000000 }) (disch := first | omega | rfl) only [sA]
          exact leave_one rfl (by simp only [Tr.get_put, Nat.reduceEqDiff, if_true, if_false]; rfl) ⟨by rw [fin], HX.refl hw⟩
        · by_cases h0 : c' < lo
          · have q1 : decide ((c' : Int) < (lo : Int)) = true := decide_eq_true (by omega)
            (repeat refine EvC.seq ?_); refine EvC.reg ?_; simp (config := { maxSteps := 2000000 }) (disch := first | omega | rfl) only [sA, Nat.reduceEqDiff, if_true, if_false, e6, e7, q1]
            (repeat refine EvC.seq ?_); refine EvC.condT (by simp only [sA, Nat.reduceEqDiff, if_true, if_false]) ?_
            (repeat refine EvC.seq ?_); refine EvC.reg ?_; simp (config := { maxSteps := 2000000 }) (disch := first | omega | rfl) only [sA]
            refine EvC.ret ?_
            try simp (config := { maxSteps := 2000000 }) (disch := first | omega | rfl) only [sA]
            exact leave_one rfl (by simp only [Tr.get_put, Nat.reduceEqDiff, if_true, if_false]; rfl) ⟨by rw [fin], HX.refl hw⟩
          have q1 : decide ((c' : Int) < (lo : Int)) = false := decide_eq_false (by omega)
          by_cases h2 : 1114111 < c'
          · have q2 : decide ((c' : Int) > 1114111) = true := decide_eq_true (by omega)
            (repeat refine EvC.seq ?_); refine EvC.reg ?_; simp (config := { maxSteps := 2000000 }) (disch := first | omega | rfl) only [sA, Nat.reduceEqDiff, if_true, if_false, e6, e7, q1, q2, Bool.false_eq_true]
            (repeat refine EvC.seq ?_); refine EvC.condT (by simp only [sA, Nat.reduceEqDiff, if_true, if_false]) ?_
            (repeat refine EvC.seq ?_); refine EvC.reg ?_; simp (config := { maxSteps := 2000000 }) (disch := first | omega | rfl) only [sA]
            refine EvC.ret ?_
            try simp (config := { maxSteps := 2000000 }) (disch := first | omega | rfl) only [sA]
            exact leave_one rfl (by simp only [Tr.get_put, Nat.reduceEqDiff, if_true, if_false]; rfl) ⟨by rw [fin], HX.refl hw⟩
          · have q2 : decide ((c' : Int) > 1114111) = false := decide_eq_false (by omega)
            have q3 : decide ((c' : Int) ≥ 55296) = true := decide_eq_true (by omega)
            have q4 : decide ((c' : Int) < 57344) = true := decide_eq_true (by omega)
            (repeat refine EvC.seq ?_); refine EvC.reg ?_; simp (config := { maxSteps := 2000000 }) (disch := first | omega | rfl) only [sA, Nat.reduceEqDiff, if_true, if_false, e6, e7, q1, q2, q3, q4, Bool.false_eq_true]
            (repeat refine EvC.seq ?_); refine EvC.condT (by simp only [sA, Nat.reduceEqDiff, if_true, if_false]) ?_
            (repeat refine EvC.seq ?_); refine EvC.reg ?_; simp (config := { maxSteps := 2000000 }) (disch := first | omega | rfl) only [sA]
            refine EvC.ret ?_
            try simp (config := { maxSteps := 2000000 }) (disch := first | omega | rfl) only [sA]
            exact leave_one rfl (by simp only [Tr.get_put, Nat.reduceEqDiff, if_true, if_false]; rfl) ⟨by rw [fin], HX.refl hw⟩
      · have hst : stepR (s[i] :: s.data.toList.drop (i + 1)) = some (n + 1) := by simp only [stepR, ← hm', hlead, hcont, if_neg hbad]
        have q1 : decide ((c' : Int) < (lo : Int)) = false := decide_eq_false (by omega)
        have q2 : decide ((c' : Int) > 1114111) = false := decide_eq_false (by omega)
        have nxt : utfR (s.size - (i + 1 + n)) (s.data.toList.drop (i + 1 + n)) = utfR s.size s.data.toList := by
          rw [← hc, hst]
          simp only [List.drop_succ_cons, List.drop_drop]
          rw [utfR_valid _ _ (by rw [List.length_drop, len_bytes]; omega), utfR_valid _ _ (by rw [List.length_drop, len_bytes]; omega)]
        by_cases h3 : 55296 ≤ c'
        · have q3 : decide ((c' : Int) ≥ 55296) = true := decide_eq_true (by omega)
          have q4 : decide ((c' : Int) < 57344) = false := decide_eq_false (by omega)
          (repeat refine EvC.seq ?_); refine EvC.reg ?_; simp (config := { maxSteps := 2000000 }) (disch := first | omega | rfl) only [sA, Nat.reduceEqDiff, if_true, if_false, e6, e7, q1, q2, q3, q4, Bool.false_eq_true]
          (repeat refine EvC.seq ?_); refine EvC.condF (by simp only [sA, Nat.reduceEqDiff, if_true, if_false]) (EvC.skip ?_)
          try simp (config := { maxSteps := 2000000 }) (disch := first | omega | rfl) only [thenC_normal]
          (repeat refine EvC.seq ?_); refine EvC.reg ?_; simp (config := { maxSteps := 2000000 }) (disch := first | omega | rfl) only [sA, Nat.reduceEqDiff, if_true, if_false, e3, e5, wrap_i64]
          exact ⟨s.size - (i + 1 + n), by omega, _, i + 1 + n, rfl, rfl, by omega, nxt, by simp only [Tr.get_put, reduceCtorEq, if_false]; exact e0, by simp only [Tr.get_put, Nat.reduceEqDiff, if_true, if_false]; exact congrArg (fun z => some (Value.int .i64 z)) (by omega)⟩
        · have q3 : decide ((c' : Int) ≥ 55296) = false := decide_eq_false (by omega)
          (repeat refine EvC.seq ?_); refine EvC.reg ?_; simp (config := { maxSteps := 2000000 }) (disch := first | omega | rfl) only [sA, Nat.reduceEqDiff, if_true, if_false, e6, e7, q1, q2, q3, Bool.false_eq_true]
          (repeat refine EvC.seq ?_); refine EvC.condF (by simp only [sA, Nat.reduceEqDiff, if_true, if_false]) (EvC.skip ?_)
          try simp (config := { maxSteps := 2000000 }) (disch := first | omega | rfl) only [thenC_normal]
          (repeat refine EvC.seq ?_); refine EvC.reg ?_; simp (config := { maxSteps := 2000000 }) (disch := first | omega | rfl) only [sA, Nat.reduceEqDiff, if_true, if_false, e3, e5, wrap_i64]
          exact ⟨s.size - (i + 1 + n), by omega, _, i + 1 + n, rfl, rfl, by omega, nxt, by simp only [Tr.get_put, reduceCtorEq, if_false]; exact e0, by simp only [Tr.get_put, Nat.reduceEqDiff, if_true, if_false]; exact congrArg (fun z => some (Value.int .i64 z)) (by omega)⟩
    · refine EvC.condF (by simp only [sA, Nat.reduceEqDiff, if_true, if_false]; exact congrArg _ (decide_eq_false (by omega))) (EvC.exit ?_)
      try simp (config := { maxSteps := 2000000 }) (disch := first | omega | rfl) only [sA, if_true]
      (repeat refine EvC.seq ?_); refine EvC.reg ?_; simp (config := { maxSteps := 2000000 }) (disch := first | omega | rfl) only [sA]
      refine EvC.ret (leave_one rfl (by simp only [Tr.get_put, Nat.reduceEqDiff, if_true, if_false]; rfl) ⟨?_, HX.refl hw⟩)
      rw [← hc, show s.size - i = 0 by omega, utfR]
  · exact ⟨_, 0, rfl, by omega, by omega, rfl, by simp only [Tr.get_put, reduceCtorEq, if_true, if_false], by simp only [Tr.get_put, Nat.reduceEqDiff, reduceCtorEq, if_true, if_false]; rfl⟩
end Go.Proofs.YtlllbkjiadcloaaDoor.hb
end

-- Y9
section
/- Which texts are those of integers: the program's test and the reference's are one. -/
namespace Go.Proofs.YtlllbkjiadcloaaDoor.hb
open Go Go.RowKit Go.Hb
variable {ok : Ok}
set_option maxRecDepth 10000
attribute [local irreducible] LX LG EL STG SOP SGO SGD SAL SRD SEF SEG SLK SCK ES
def canonS (s : ByteArray) : Bool := match parseD (bl s) with | none => false | some n => textD (negS (bl s)) n == bl s
theorem parseD_lt {l : List Nat} {n : Nat} (h : parseD l = some n) : n < big := by
  unfold parseD at h
  split at h
  · cases h
  · split at h
    · cases h
    · exact numD_lt _ 0 n (by rw [big_eq]; exact Nat.two_pow_pos _) h
theorem toNat_inj : ∀ {a b : List UInt8}, a.map UInt8.toNat = b.map UInt8.toNat → a = b
  | [], [], _ => rfl
  | x :: a, y :: b, h => by
    simp only [List.map_cons, List.cons.injEq] at h
    rw [UInt8.toNat_inj.1 h.1, toNat_inj h.2]
  | [], _ :: _, h => by simp at h
  | _ :: _, [], h => by simp at h
theorem data_beq (t s : ByteArray) : (t.data.toList == s.data.toList) = (bl t == bl s) := by
  by_cases h : t.data.toList = s.data.toList
  · rw [beq_iff_eq.2 h, beq_iff_eq.2 (show bl t = bl s by unfold bl; rw [h])]
  · have h2 : bl t ≠ bl s := fun h3 => h (toNat_inj h3)
    rw [beq_eq_false_iff_ne.2 h, beq_eq_false_iff_ne.2 h2]

-- term.integer
theorem integer_ev : TellsS okT 102 canonS := by
  intro s H hs hw
  refine EvF.enter rfl Tryd.func102 (by decide) rfl ?_
  repeat' (first | refine EvC.seq ?_ | refine EvC.scope ?_ | refine EvC.block ?_ | (refine EvC.skip ?_) | (refine EvC.exit ?_) | (refine EvC.ret ?_; try simp only [thenC_ret, inBlock_ret]) | (refine EvC.reg ?_; simp (config := { maxSteps := 2000000 }) (disch := first | omega | rfl) only [sA, initTm, Nat.reduceEqDiff, reduceCtorEq, if_true, if_false, cl124]))
  refine (parse_ev hs hw).mono ?_
  rintro v H1 ⟨hP, hx1⟩
  rcases hP with ⟨hnone, e, he, rfl⟩ | ⟨n, L, a, c, hsome, rfl, hr, hLb, hval, hlast, hlen⟩
  · have hx2 := (hx1.new (some (.row [.bool false, .slice none 0 0] 142))).put (i := H1.next) hx1.next (Nat.lt_succ_self _) (some (.row [.bool false, .slice none 0 0] 142))
    repeat' (first | refine EvC.seq ?_ | refine EvC.scope ?_ | refine EvC.block ?_ | (refine EvC.skip ?_) | (refine EvC.exit ?_) | (refine EvC.ret ?_; try simp only [thenC_ret, inBlock_ret]) | (refine EvC.reg ?_; simp (config := { maxSteps := 2000000 }) (disch := first | omega | rfl) only [sA, Nat.reduceEqDiff, reduceCtorEq, if_true, if_false, ine_t]) | (refine LX_go ?_; simp (config := { maxSteps := 2000000 }) (disch := first | omega | rfl) only [sA, dAlloc, Nat.reduceEqDiff, Nat.reduceAdd, one, reduceCtorEq, if_true, if_false, zr142, st142]) | (refine EvC.condT ?_ ?_; simp (config := { maxSteps := 2000000 }) (disch := first | omega | rfl) only [sA, Nat.reduceEqDiff, reduceCtorEq, if_true, if_false]; refine EvC_go ?_))
    exact leave_one rfl (by first | (simp only [sA, Nat.reduceEqDiff, reduceCtorEq, if_true, if_false]; rfl) | simp only []) ⟨by unfold canonS; rw [hnone], hx2⟩
  · have hn : n < big := parseD_lt hsome
    have hx2 := ((HX.refl hx1.wf).new (some (.row [.bool false, .slice none 0 0] 142))).put (i := H1.next) (Nat.le_refl _) (Nat.lt_succ_self _) (some (.row [.bool (negS (bl s) && decide (0 < L.length)), .slice a L.length c] 142))
    repeat' (first | refine EvC.seq ?_ | refine EvC.scope ?_ | refine EvC.block ?_ | (refine EvC.skip ?_; try simp only [thenC_normal]) | (refine EvC.exit ?_) | (refine EvC.ret ?_; try simp only [thenC_ret, inBlock_ret]) | (refine EvC.reg ?_; simp (config := { maxSteps := 2000000 }) (disch := first | omega | rfl) only [sA, Nat.reduceEqDiff, Nat.reduceAdd, reduceCtorEq, if_true, if_false, cutC, ld142, cl125, ine_f]) | (refine LX_go ?_; simp (config := { maxSteps := 2000000 }) (disch := first | omega | rfl) only [sA, dAlloc, Nat.reduceEqDiff, Nat.reduceAdd, one, reduceCtorEq, if_true, if_false, zr142, st142]) | (refine EvC.condT ?_ ?_; simp (config := { maxSteps := 2000000 }) (disch := first | omega | rfl) only [sA, Nat.reduceEqDiff, reduceCtorEq, if_true, if_false]; refine EvC_go ?_) | (refine EvC.condF ?_ ?_; simp (config := { maxSteps := 2000000 }) (disch := first | omega | rfl) only [sA, Nat.reduceEqDiff, reduceCtorEq, if_true, if_false]; refine EvC_go ?_))
    refine (text_ev hx2.wf (hr.keep hx2 hx1.wf) hLb hlen hval hn).mono ?_
    rintro v H2 ⟨⟨t, rfl, ht⟩, hx3⟩
    have htx : textD (negS (bl s) && decide (0 < L.length)) n = textD (negS (bl s)) n := by
      by_cases h0 : 0 < L.length
      · simp [h0]
      · have : L = [] := List.length_eq_zero_iff.1 (by omega)
        subst this
        have : n = 0 := by rw [← hval]; rfl
        subst this; rfl
    rw [htx] at ht
    have heq : (t.data.toList == s.data.toList) = canonS s := by
      rw [data_beq, ht]
      unfold canonS; rw [hsome]
    repeat' (first | refine EvC.seq ?_ | refine EvC.scope ?_ | refine EvC.block ?_ | (refine EvC.skip ?_) | (refine EvC.exit ?_) | (refine EvC.ret ?_; try simp only [thenC_ret, inBlock_ret]) | (refine EvC.reg ?_; simp (config := { maxSteps := 2000000 }) (disch := first | omega | rfl) only [sA, Nat.reduceEqDiff, reduceCtorEq, if_true, if_false, ieq_t, bEqS_data, heq]) | (refine LX_go ?_; simp (config := { maxSteps := 2000000 }) (disch := first | omega | rfl) only [sA, Nat.reduceEqDiff, reduceCtorEq, if_true, if_false]))
    exact leave_one rfl (by first | (simp only [Tr.get_put, Nat.reduceEqDiff, reduceCtorEq, if_true, if_false]; rfl) | simp only [Tr.get_put, Nat.reduceEqDiff, reduceCtorEq, if_true, if_false]) ⟨rfl, (hx1.trans hx2).trans hx3⟩

-- hornbeamref02.canonical
theorem canonical_ev : TellsS okT 106 canonS := by
  intro s H hs hw
  refine EvF.enter rfl Tryd.func106 (by decide) rfl ?_
  repeat' (first | refine EvC.seq ?_ | refine EvC.scope ?_ | refine EvC.block ?_ | (refine EvC.skip ?_) | (refine EvC.exit ?_) | (refine EvC.ret ?_; try simp only [thenC_ret, inBlock_ret]) | (refine EvC.reg ?_; simp (config := { maxSteps := 2000000 }) (disch := first | omega | rfl) only [sA, initTm, Nat.reduceEqDiff, reduceCtorEq, if_true, if_false, cl127]))
  refine (parseR_ev hs hw).mono ?_
  rintro v H1 ⟨hP, hx1⟩
  rcases hP with ⟨hnone, e, he, rfl⟩ | ⟨n, L, a, c, hsome, rfl, hr, hLb, hval, hlast, hlen⟩
  · have hx2 := (hx1.new (some (.row [.bool false, .slice none 0 0] 149))).put (i := H1.next) hx1.next (Nat.lt_succ_self _) (some (.row [.bool false, .slice none 0 0] 149))
    repeat' (first | refine EvC.seq ?_ | refine EvC.scope ?_ | refine EvC.block ?_ | (refine EvC.skip ?_) | (refine EvC.exit ?_) | (refine EvC.ret ?_; try simp only [thenC_ret, inBlock_ret]) | (refine EvC.reg ?_; simp (config := { maxSteps := 2000000 }) (disch := first | omega | rfl) only [sA, Nat.reduceEqDiff, reduceCtorEq, if_true, if_false, ine_t]) | (refine LX_go ?_; simp (config := { maxSteps := 2000000 }) (disch := first | omega | rfl) only [sA, dAlloc, Nat.reduceEqDiff, Nat.reduceAdd, one, reduceCtorEq, if_true, if_false, zr149, st149]) | (refine EvC.condT ?_ ?_; simp (config := { maxSteps := 2000000 }) (disch := first | omega | rfl) only [sA, Nat.reduceEqDiff, reduceCtorEq, if_true, if_false]; refine EvC_go ?_))
    exact leave_one rfl (by first | (simp only [sA, Nat.reduceEqDiff, reduceCtorEq, if_true, if_false]; rfl) | simp only []) ⟨by unfold canonS; rw [hnone], hx2⟩
  · have hn : n < big := parseD_lt hsome
    have hx2 := ((HX.refl hx1.wf).new (some (.row [.bool false, .slice none 0 0] 149))).put (i := H1.next) (Nat.le_refl _) (Nat.lt_succ_self _) (some (.row [.bool (negS (bl s) && decide (0 < L.length)), .slice a L.length c] 149))
    repeat' (first | refine EvC.seq ?_ | refine EvC.scope ?_ | refine EvC.block ?_ | (refine EvC.skip ?_; try simp only [thenC_normal]) | (refine EvC.exit ?_) | (refine EvC.ret ?_; try simp only [thenC_ret, inBlock_ret]) | (refine EvC.reg ?_; simp (config := { maxSteps := 2000000 }) (disch := first | omega | rfl) only [sA, Nat.reduceEqDiff, Nat.reduceAdd, reduceCtorEq, if_true, if_false, cutC, ld149, cl128, ine_f]) | (refine LX_go ?_; simp (config := { maxSteps := 2000000 }) (disch := first | omega | rfl) only [sA, dAlloc, Nat.reduceEqDiff, Nat.reduceAdd, one, reduceCtorEq, if_true, if_false, zr149, st149]) | (refine EvC.condT ?_ ?_; simp (config := { maxSteps := 2000000 }) (disch := first | omega | rfl) only [sA, Nat.reduceEqDiff, reduceCtorEq, if_true, if_false]; refine EvC_go ?_) | (refine EvC.condF ?_ ?_; simp (config := { maxSteps := 2000000 }) (disch := first | omega | rfl) only [sA, Nat.reduceEqDiff, reduceCtorEq, if_true, if_false]; refine EvC_go ?_))
    refine (textR_ev hx2.wf (hr.keep hx2 hx1.wf) hLb hlen hlast hval hn).mono ?_
    rintro v H2 ⟨⟨t, rfl, ht⟩, hx3⟩
    have htx : textD (negS (bl s) && decide (0 < L.length)) n = textD (negS (bl s)) n := by
      by_cases h0 : 0 < L.length
      · simp [h0]
      · have : L = [] := List.length_eq_zero_iff.1 (by omega)
        subst this
        have : n = 0 := by rw [← hval]; rfl
        subst this; rfl
    rw [htx] at ht
    have heq : (t.data.toList == s.data.toList) = canonS s := by
      rw [data_beq, ht]
      unfold canonS; rw [hsome]
    repeat' (first | refine EvC.seq ?_ | refine EvC.scope ?_ | refine EvC.block ?_ | (refine EvC.skip ?_) | (refine EvC.exit ?_) | (refine EvC.ret ?_; try simp only [thenC_ret, inBlock_ret]) | (refine LX_go ?_; simp (config := { maxSteps := 2000000 }) (disch := first | omega | rfl) only [sA, Nat.reduceEqDiff, reduceCtorEq, if_true, if_false, bEqS_data, heq]))
    exact leave_one rfl (by first | (simp only [Tr.get_put, Nat.reduceEqDiff, reduceCtorEq, if_true, if_false]; rfl) | simp only [Tr.get_put, Nat.reduceEqDiff, reduceCtorEq, if_true, if_false]) ⟨rfl, (hx1.trans hx2).trans hx3⟩

end Go.Proofs.YtlllbkjiadcloaaDoor.hb
end

-- Y10
section
/- Check, both sides: one. -/
namespace Go.Proofs.YtlllbkjiadcloaaDoor.hb
open Go Go.RowKit Go.Hb
variable {ok : Ok}
set_option maxRecDepth 10000
attribute [local irreducible] LX LG EL STG SOP SGO SGD SAL SRD SEF SEG SLK SCK ES
def utfS (s : ByteArray) : Bool := Lib.validD s.data.toList
def fltS (n : Int) : Bool := !(fnB n || fiB n || n == 9223372036854775808)
def nodeS : Tm → Int := nodeE utfS canonS fltS
theorem valid_tells : TellsS okT 101 utfS := fun _ _ hs hw => valid_ev (by decide) hw hs
theorem utf_tells : TellsS okT 105 utfS := fun s H hs hw => (utf_ref_ev (fun _ _ => rfl) (by decide) s H hs hw).mono fun v H' h => by
  have h' : v = .bool (utfR s.size s.data.toList) ∧ HX H H' := h
  rw [utfR_valid _ _ (by simp)] at h'; exact h'
theorem floats_tells : TellsU okT 107 fltS := fun n H hn hw => (floats_ev (fun _ _ => rfl) (by decide) n H hn hw).mono fun v H' h => by
  rw [floats_same n hn] at h; exact h
theorem nan_tells : TellsN okT 89 103 104 fnB fiB := fun n H hn hw => ⟨isnan_ev (fun _ _ => rfl) (by decide) n H hw, isinf_ev (fun f _ _ h => by rcases h with rfl | rfl <;> rfl) (by decide) (by decide) n H hw⟩
theorem node_tells : TellsT okT 84 nodeS := fun t cs H r hw => node_ev (fun _ _ => rfl) (by decide) (fun _ _ => rfl) (by decide) valid_tells integer_ev nan_tells r hw
theorem one_tells : TellsT okT 85 nodeS := fun t cs H r hw => one_ev (fun _ _ => rfl) (by decide) utf_tells canonical_ev floats_tells r hw
theorem nodes_tells : TellsT okT 13 fun t => cnt t 0 := fun t cs H r hw => nodes_ev (fun f _ _ h => by rcases h with rfl | rfl <;> rfl) (by decide) (by decide) r hw
theorem nodesR_tells : TellsT okT 14 fun t => cnt t 0 := fun t cs H r hw => nodes_ref_ev (fun f _ _ h => by rcases h with rfl | rfl <;> rfl) (by decide) (by decide) r hw
def checkS : Tm → Int := checkE nodeS
theorem check_tells : TellsT okT 15 checkS := check_ev nodes_tells (nodes_all_ev node_tells (fun _ _ => rfl) (by decide)) (fun _ _ => rfl) (by decide)
theorem checkR_tells : TellsT okT 16 checkS := ref_check_ev nodesR_tells (ref_all_ev one_tells (fun _ _ => rfl) (by decide)) (fun _ _ => rfl) (by decide)
end Go.Proofs.YtlllbkjiadcloaaDoor.hb
end

-- Z0
section
/- Terms that may be; small things. -/
namespace Go.Proofs.YtlllbkjiadcloaaDoor.hb
open Go Go.RowKit Go.Hb
def orZ (a b : Int) : Int := if a = 0 then b else a
theorem orZ_neg (x y : Int) : orZ (-x) (-y) = -(orZ x y) := by
  unfold orZ
  by_cases h : x = 0
  · subst h; simp
  · rw [if_neg h, if_neg (by omega)]
theorem orZ_zero {x y : Int} : orZ x y = 0 ↔ x = 0 ∧ y = 0 := by
  unfold orZ
  by_cases h : x = 0
  · rw [if_pos h]; simp [h]
  · rw [if_neg h]; simp [h]
theorem toList_inj {a b : ByteArray} (h : a.toList = b.toList) : a = b := by
  rw [toList_data, toList_data] at h
  obtain ⟨⟨a⟩⟩ := a; obtain ⟨⟨b⟩⟩ := b
  simp at h; rw [h]
/-- a term that may be -/
def Fine (t : Tm) : Prop := allE nodeS t = 0
theorem allL_mem {E : Tm → Int} : ∀ {l : List Tm}, allL E l = 0 → ∀ u ∈ l, allE E u = 0
  | [], _, u, hu => by simp at hu
  | t :: l, h, u, hu => by
    rw [allL] at h
    split at h
    · rename_i h0
      rcases List.mem_cons.1 hu with rfl | hu
      · exact h0
      · exact allL_mem h u hu
    · rename_i h0; exact absurd h h0
theorem Fine.node {t : Tm} (h : Fine t) : nodeS t = 0 := by
  unfold Fine at h
  rw [allE_eq] at h
  split at h
  · assumption
  · rename_i h0; exact absurd h h0
theorem Fine.args {t : Tm} (h : Fine t) : ∀ u ∈ t.args, Fine u := by
  have h1 := h.node
  unfold Fine at h
  rw [allE_eq, if_pos h1] at h
  exact allL_mem h
theorem node_kind {t : Tm} (h : nodeS t = 0) : 1 ≤ t.kind ∧ t.kind ≤ 5 ∧ blankB t = true ∧ 0 ≤ t.var ∧ (t.kind = 5 → 1 ≤ t.args.length ∧ t.args.length ≤ 64) ∧ (t.kind = 3 → canonS t.num = true) ∧ (t.kind = 4 → fltS t.bits = true) ∧ utfS t.name = true ∧ t.name.size ≤ 1000 := by
  unfold nodeS nodeE at h
  split at h
  · omega
  split at h
  · omega
  split at h
  · omega
  split at h
  · omega
  split at h
  · omega
  split at h
  · omega
  split at h
  · omega
  split at h
  · omega
  rename_i h1 h2 h3 h4 h5 h6 h7 h8
  refine ⟨by omega, by omega, by simpa using h2, by omega, fun h => ?_, fun h => ?_, fun h => ?_, by simpa using h5, by omega⟩
  · have := fun q => h4 ⟨h, q⟩; omega
  · cases hh : canonS t.num with
    | true => rfl
    | false => exact absurd ⟨h, hh⟩ h7
  · cases hh : fltS t.bits with
    | true => rfl
    | false => exact absurd ⟨h, hh⟩ h8
theorem isE_eq {s : ByteArray} (h : isE s = true) : s = ByteArray.empty := by
  unfold isE at h
  have h1 : s.toList = [] := by simpa using h
  apply toList_inj
  rw [h1]
  exact toList_empty.symm
theorem mem_args_size {t u : Tm} (h : u ∈ t.args) : SizeOf.sizeOf u < SizeOf.sizeOf t := by
  obtain ⟨k, s, w, b, v, l⟩ := t
  exact mem_size h
theorem blank_fields {t : Tm} (h : blankB t = true) : (t.kind ≠ 2 → t.kind ≠ 5 → t.name = ByteArray.empty) ∧ (t.kind ≠ 3 → t.num = ByteArray.empty) ∧ (t.kind ≠ 4 → t.bits = 0) ∧ (t.kind ≠ 1 → t.var = 0) ∧ (t.kind ≠ 5 → t.args = []) := by
  unfold blankB at h
  simp only [Bool.and_eq_true, Bool.or_eq_true, beq_iff_eq] at h
  obtain ⟨⟨⟨⟨h1, h2⟩, h3⟩, h4⟩, h5⟩ := h
  refine ⟨fun a b => ?_, fun a => ?_, fun a => ?_, fun a => ?_, fun a => ?_⟩
  · rcases h1 with (h | h) | h
    · exact absurd h a
    · exact absurd h b
    · exact isE_eq h
  · rcases h2 with h | h
    · exact absurd h a
    · exact isE_eq h
  · rcases h3 with h | h
    · exact absurd h a
    · exact h
  · rcases h4 with h | h
    · exact absurd h a
    · exact h
  · rcases h5 with h | h
    · exact absurd h a
    · exact List.length_eq_zero_iff.1 (by omega)
theorem tm_ext {t t' : Tm} (h1 : t.kind = t'.kind) (h2 : t.name = t'.name) (h3 : t.num = t'.num) (h4 : t.bits = t'.bits) (h5 : t.var = t'.var) (h6 : t.args = t'.args) : t = t' := by
  obtain ⟨k, s, u, b, v, l⟩ := t
  obtain ⟨k', s', u', b', v', l'⟩ := t'
  simp only [Tm.kind, Tm.name, Tm.num, Tm.bits, Tm.var, Tm.args] at *
  subst h1 h2 h3 h4 h5 h6; rfl
theorem check_zero {t : Tm} : checkS t = 0 ↔ cnt t 0 ≤ 4000 ∧ Fine t := by
  unfold checkS checkE Fine
  by_cases h : 4000 < cnt t 0
  · rw [if_pos h]; constructor
    · intro h; omega
    · intro h; omega
  · rw [if_neg h]; constructor
    · intro h'; exact ⟨by omega, h'⟩
    · intro h'; exact h'.2
end Go.Proofs.YtlllbkjiadcloaaDoor.hb
end

-- V1
section
/- Trees in memory of their own: the program's (own), the reference's (Own). -/
namespace Go.Hb
open Go Go.RowKit
theorem splice_at {cs vs : List Value} {o k : Nat} (h : o + vs.length ≤ cs.length) : (splice cs o vs)[k]? = if o ≤ k ∧ k < o + vs.length then vs[k - o]? else cs[k]? := by
  rw [splice_eq _ _ _ (by omega)]
  simp only [List.getElem?_append, List.getElem?_take, List.getElem?_drop, List.length_take, List.length_append]
  grind
theorem splice_same {cs vs : List Value} {o s : Nat} (h : o + s ≤ cs.length) (hv : vs.length = s) : ((splice cs o vs).drop o).take s = vs := by
  apply List.ext_getElem?
  intro k
  rw [List.getElem?_take, List.getElem?_drop, splice_at (by omega)]
  by_cases hk : k < s
  · rw [if_pos hk, if_pos (by omega), show o + k - o = k by omega]
  · rw [if_neg hk, List.getElem?_eq_none (by omega)]
theorem splice_other {cs vs : List Value} {o j s : Nat} (h : o + s ≤ cs.length) (hv : vs.length = s) (hd : j + s ≤ o ∨ o + s ≤ j) : ((splice cs o vs).drop j).take s = (cs.drop j).take s := by
  apply List.ext_getElem?
  intro k
  rw [List.getElem?_take, List.getElem?_drop, splice_at (by omega), List.getElem?_take, List.getElem?_drop]
  by_cases hk : k < s
  · rw [if_pos hk, if_neg (by omega), if_pos hk]
  · rw [if_neg hk, if_neg hk]
theorem mul6 {i j : Nat} (h : i < j) : i * 6 + 6 ≤ j * 6 := by omega
theorem HX.pt {A H : Heap} (h : HX A H) {i : Nat} {B0 : Blk} (hi : A.next ≤ i) (hg : H.get i = some B0) (B : Option Blk) : HX A (H.put i B) := h.put hi (h.wf i _ hg) B
theorem newput {H : Heap} (hw : H.wf) (A B : Blk) : ∃ H2, (H.new (some A)).put H.next (some B) = H2 ∧ HX H H2 ∧ H2.get H.next = some B ∧ H2.next = H.next + 1 ∧ H2.wf := by
  have hx := ((HX.refl hw).new (some A)).put (i := H.next) (Nat.le_refl _) (Nat.lt_succ_self _) (some B)
  exact ⟨_, rfl, hx, by rw [get_put, if_pos rfl], rfl, hx.wf⟩
end Go.Hb
namespace Go.Proofs.YtlllbkjiadcloaaDoor.hb
open Go Go.RowKit Go.Hb
variable {ok : Ok}
set_option maxRecDepth 10000
attribute [local irreducible] LX LG EL STG SOP SGO SGD SAL SRD SEF SEG SLK SCK ES
-- @veq
theorem fine_few {t : Tm} (h : Fine t) : t.args.length ≤ 64 := by
  have k := node_kind h.node
  by_cases h5 : t.kind = 5
  · exact (k.2.2.2.2.1 h5).2
  · rw [(blank_fields k.2.2.1).2.2.2.2 h5]; exact Nat.zero_le _
abbrev zero6 : List Value := [.int .i64 0, .string ByteArray.empty, .string ByteArray.empty, .int .u64 0, .int .i64 0, .slice none 0 0]

-- term.own
set_option maxHeartbeats 4000000 in
theorem ownT_ev {m : Nat} : ∀ {t : Tm} {cs : List Value} {H : Heap}, SizeOf.sizeOf t < m → RepT H t cs → Fine t → H.wf →
    EvF Tryd.prog okT 61 [.agg ⟨cs⟩] H fun v H' => ∃ cs', v = .agg ⟨cs'⟩ ∧ RepF H' 26 (Rg H.next H'.next) t cs' ∧ HX H H' := by
  induction m with
  | zero => intro t cs H h; omega
  | succ m ih =>
  intro t cs H hsz r hf hw
  have hbd := r.bd
  have hfew := fine_few hf
  obtain ⟨a, c, cells, rfl, -, -, -, -, -, rl⟩ := r.six
  refine EvF.enter rfl Tryd.func61 (by decide) rfl ?_
  (repeat refine EvC.seq ?_); refine EvC.reg ?_; simp (config := { maxSteps := 2000000 }) (disch := first | omega | rfl) only [sA, initTm, dBox, dAlloc, Value.cells, one, if_true, zr26]
  obtain ⟨H2, e2, hx2, gp, gq, hn2, hw2⟩ := new2 hw (.row (six t a c) 26) (.row zero6 26)
  simp only [e2]
  have q1 := row6 gp
  clear e2
  have hmost : t.args.length ≤ most := by unfold most; omega
  have ne1 : (H.next + 1 = H.next) = False := by simp
  have ne2 : (H.next = H.next + 1) = False := by simp
  by_cases h0 : t.args.length = 0
  · have h0' : (t.args.length : Int) = 0 := by omega
    have he : t.args = [] := List.length_eq_zero_iff.1 h0
    repeat' (first | refine EvC.seq ?_ | refine EvC.scope ?_ | refine EvC.block ?_ | (refine EvC.skip ?_) | (refine EvC.exit ?_) | (refine EvC.ret ?_; try simp only [thenC_ret, inBlock_ret]) | (refine EvC.reg ?_; simp (config := { maxSteps := 2000000 }) (disch := first | omega | rfl) only [sA, Nat.reduceEqDiff, Nat.reduceAdd, one, reduceCtorEq, if_true, if_false, cutC, fa26_5, ld24, ln24, st24, ld26, st26, q1, gp, gq, ieq_t h0', ne1]) | (refine EvC.condT ?_ ?_; simp (config := { maxSteps := 2000000 }) (disch := first | omega | rfl) only [sA, Nat.reduceEqDiff, reduceCtorEq, if_true, if_false]; refine EvC_go ?_))
    have hx3 := (hx2.pt (Nat.le_refl _) gp (some (.row [.int .i64 t.kind, .string t.name, .string t.num, .int .u64 t.bits, .int .i64 t.var, .slice none 0 0] 26))).pt (i := H.next + 1) (Nat.le_succ _) (by rw [get_put, if_neg (by omega)]; exact gq)
      (some (.row [.int .i64 t.kind, .string t.name, .string t.num, .int .u64 t.bits, .int .i64 t.var, .slice none 0 0] 26))
    refine leave_cell rfl (by first | (simp only [sA, Nat.reduceEqDiff, reduceCtorEq, if_true, if_false]; rfl) | simp only []) (by simp only [sA, Nat.reduceAdd, if_true, cutC, ld26]; rfl) ⟨_, rfl, ⟨none, 0, ?_, hbd, ?_⟩, hx3⟩
    · simp only [six, h0]
    · rw [he]; exact .nil _
  · have h0' : (t.args.length : Int) ≠ 0 := by omega
    have ne3 : (H.next = H2.next) = False := by simp; omega
    repeat' (first | refine EvC.seq ?_ | refine EvC.scope ?_ | refine EvC.block ?_ | (refine EvC.skip ?_; try simp only [thenC_normal]) | (refine EvC.exit ?_) | (refine EvC.ret ?_; try simp only [thenC_ret, inBlock_ret]) | (refine EvC.reg ?_; simp (config := { maxSteps := 2000000 }) (disch := first | omega | rfl) only [sA, Nat.reduceEqDiff, reduceCtorEq, if_true, if_false, cutC, fa26_5, ld24, ln24, q1, ieq_f h0', dMk_nat mk24, ne3]) | (refine EvC.condT ?_ ?_; simp (config := { maxSteps := 2000000 }) (disch := first | omega | rfl) only [sA, Nat.reduceEqDiff, reduceCtorEq, if_true, if_false]; refine EvC_go ?_) | (refine EvC.condF ?_ ?_; simp (config := { maxSteps := 2000000 }) (disch := first | omega | rfl) only [sA, Nat.reduceEqDiff, reduceCtorEq, if_true, if_false]; refine EvC_go ?_))
    obtain ⟨H3, e3, hx3, gr, hn3, hw3⟩ := new1 hw2 (.row (repL t.args.length zero6) 26)
    simp only [e3]
    clear e3
    have gp3 := hx3.get hw2 gp
    have gq3 := hx3.get hw2 gq
    have hx23 := hx2.trans hx3
    have hmax := rl.max
    rw [hn2] at gr hn3
    refine EvC.loop (fun k st => ∃ tm H' i cells' Si ai ci, st = ⟨tm, [], H'⟩ ∧ k = t.args.length - i ∧ i ≤ t.args.length ∧
      tm.get 1 = some (.pointer (some ⟨H.next, 0, none⟩)) ∧ tm.get 2 = some (.pointer (some ⟨H.next + 1, 0, none⟩)) ∧ tm.get 3 = some (.slice (some ⟨H.next + 2, 0, none⟩) t.args.length t.args.length) ∧
      tm.get 17 = some (.slice a t.args.length c) ∧ tm.get 18 = some (.int .i64 t.args.length) ∧ tm.get 19 = some (.int .i64 (i : Nat)) ∧
      H'.get H.next = some (.row (six t a c) 26) ∧ H'.get (H.next + 1) = some (.row zero6 26) ∧ H'.get (H.next + 2) = some (.row cells' 26) ∧ cells'.length = t.args.length * 6 ∧
      FLs H' 26 (Rg (H.next + 3) H'.next) (t.args.take i) cells' Si ai ci ∧ HX H H') ?_ t.args.length _ ?_
    · rintro k st ⟨tm, H', i, cells', Si, ai, ci, rfl, rfl, hi, t1, t2, t3, t17, t18, t19, gp', gq', gr', hlen, hfl, hx'⟩
      have q1 := row6 gp'
      by_cases hlt : i < t.args.length
      · obtain ⟨b, o, a1, c1, rfl, hld, hr1⟩ := rl.el hlt
        have hld1 := hx'.load hw hld
        repeat' (first | refine EvC.seq ?_ | refine EvC.scope ?_ | refine EvC.block ?_ | (refine EvC.skip ?_; try simp only [thenC_normal]) | (refine EvC.exit ?_) | (refine EvC.ret ?_; try simp only [thenC_ret, inBlock_ret]) | (refine EvC.reg ?_; simp (config := { maxSteps := 2000000 }) (disch := first | omega | rfl) only [sA, dAlloc, Nat.reduceEqDiff, Nat.reduceAdd, one, if_true, if_false, cutC, zr26, ld26, st26, ia24, cl61, t3, t17, t18, t19, decl hlt, hld1]) | (refine EvC.condT ?_ ?_; simp (config := { maxSteps := 2000000 }) (disch := first | omega | rfl) only [sA, if_true]; refine EvC_go ?_))
        obtain ⟨H4, e4, hx4, g4, hn4, hw4⟩ := newput hx'.wf (.row zero6 26) (.row (six t.args[i] a1 c1) 26)
        simp only [e4]
        clear e4
        have hs := args_size (List.getElem?_eq_getElem hlt)
        refine (ih (t := t.args[i]) (by omega) (hr1.mono (hx'.trans hx4) hw) (hf.args _ (List.getElem_mem _)) hw4).mono ?_
        rintro v H5 ⟨cs', rfl, ⟨a2, c2, rfl, hb2, hf2⟩, hx5⟩
        have hx45 := hx4.trans hx5
        have gr5 := hx45.get hx'.wf gr'
        have gp5 := hx45.get hx'.wf gp'
        have gq5 := hx45.get hx'.wf gq'
        have hle : i * 6 + 6 ≤ cells'.length := by rw [hlen]; exact mul6 hlt
        have hln := hx45.next
        have hln2 := hx5.next
        have hlt3 := hx'.wf _ _ gq'
        have hlt4 := hx'.wf _ _ gr'
        repeat' (first | refine EvC.seq ?_ | refine EvC.scope ?_ | refine EvC.block ?_ | (refine EvC.skip ?_) | (refine EvC.exit ?_) | (refine EvC.ret ?_; try simp only [thenC_ret, inBlock_ret]) | (refine EvC.reg ?_; simp (config := { maxSteps := 2000000 }) (disch := first | omega | rfl) only [sA, Nat.reduceEqDiff, if_true, if_false, t19, wrap_i64]) | (refine LX_go ?_; simp (config := { maxSteps := 2000000 }) (disch := first | omega | rfl) only [sA, Nat.reduceAdd, one, if_true, st26, gr5, hle]))
        have hx6 := (hx'.trans hx45).pt (i := H.next + 2) (by omega) gr5 (some (.row (Hb.splice cells' (i * 6) (six t.args[i] a2 c2)) 26))
        have et : t.args.take (i + 1) = t.args.take i ++ [t.args[i]] := (List.take_append_getElem hlt).symm
        have etl : (t.args.take i).length = i := by rw [List.length_take]; omega
        obtain ⟨Si', ai', ci', hsn⟩ : ∃ Si ai ci, FLs (H5.put (H.next + 2) (some (.row (Hb.splice cells' (i * 6) (six t.args[i] a2 c2)) 26))) 26 (Rg (H.next + 3) H5.next) (t.args.take (i + 1)) (Hb.splice cells' (i * 6) (six t.args[i] a2 c2)) Si ai ci := by
          rw [et]
          refine ⟨_, _, _, hfl.snoc (S' := Rg (H.next + 3) H5.next) (N := Rg H4.next H5.next) (fun n hn hl => ?_) hx'.wf (hf2.heap (fun n hn hl => ?_) hx5.wf) hb2 (fun n hn hs => ?_) (fun n hn => ?_) (fun n hn => ?_) (fun j hj => ?_) ?_⟩
          · have := hn.1
            rw [get_put, if_neg (by omega)]; exact hx45.keep n hl
          · have := hn.1
            rw [get_put, if_neg (by omega)]
          · have := hn.1; have := hs.2; omega
          · exact ⟨hn.1, by have := hn.2; omega⟩
          · exact ⟨by have := hn.1; omega, hn.2⟩
          · rw [etl] at hj
            exact splice_other hle rfl (.inl (mul6 hj))
          · rw [etl]
            exact splice_same hle rfl
        exact ⟨t.args.length - (i + 1), by omega, _, _, i + 1, Hb.splice cells' (i * 6) (six t.args[i] a2 c2), Si', ai', ci', rfl, rfl, by omega, (by first | (simp only [Tr.get_put, Nat.reduceEqDiff, if_false, t1]; rfl) | simp only [Tr.get_put, Nat.reduceEqDiff, if_false, t1]), (by first | (simp only [Tr.get_put, Nat.reduceEqDiff, if_false, t2]; rfl) | simp only [Tr.get_put, Nat.reduceEqDiff, if_false, t2]), (by first | (simp only [Tr.get_put, Nat.reduceEqDiff, if_false, t3]; rfl) | simp only [Tr.get_put, Nat.reduceEqDiff, if_false, t3]), (by first | (simp only [Tr.get_put, Nat.reduceEqDiff, if_false, t17]; rfl) | simp only [Tr.get_put, Nat.reduceEqDiff, if_false, t17]), (by first | (simp only [Tr.get_put, Nat.reduceEqDiff, if_false, t18]; rfl) | simp only [Tr.get_put, Nat.reduceEqDiff, if_false, t18]), (by first | (simp only [sA, Nat.reduceEqDiff, if_true, if_false]; rfl) | simp only []),
          by rw [get_put, if_neg (by omega)]; exact gp5, by rw [get_put, if_neg (by omega)]; exact gq5, by rw [get_put, if_pos rfl], by rw [splice_len hle]; exact hlen, hsn, hx6⟩
      · repeat' (first | refine EvC.seq ?_ | refine EvC.scope ?_ | refine EvC.block ?_ | (refine EvC.skip ?_) | (refine EvC.exit ?_; try simp only [sA, if_true]) | (refine EvC.ret ?_; try simp only [thenC_ret, inBlock_ret]) | (refine EvC.reg ?_; simp (config := { maxSteps := 2000000 }) (disch := first | omega | rfl) only [sA, Nat.reduceEqDiff, Nat.reduceAdd, one, if_true, if_false, cutC, fa26_5, st24, ld26, st26, t1, t2, t3, t18, t19, q1, gp', gq', decn hlt, ne1]) | (refine EvC.condT ?_ ?_; simp (config := { maxSteps := 2000000 }) (disch := first | omega | rfl) only [sA, if_true]; refine EvC_go ?_) | (refine EvC.condF ?_ ?_; simp (config := { maxSteps := 2000000 }) (disch := first | omega | rfl) only [sA, if_true]; refine EvC_go ?_))
        have hi' : i = t.args.length := by omega
        have hlt3 := hx'.wf _ _ gr'
        have hx7 := (hx'.pt (Nat.le_refl _) gp' (some (.row (six t (some ⟨H.next + 2, 0, none⟩) t.args.length) 26))).pt (i := H.next + 1) (Nat.le_succ _) (by rw [get_put, if_neg (by omega)]; exact gq')
          (some (.row (six t (some ⟨H.next + 2, 0, none⟩) t.args.length) 26))
        refine leave_cell rfl (by first | (simp only [sA, Nat.reduceEqDiff, if_false, t2]; rfl) | simp only []) (by first | (simp only [sA, Nat.reduceAdd, if_true, cutC, ld26]; rfl) | simp only [sA, Nat.reduceAdd, if_true, cutC, ld26]) ⟨_, rfl, ⟨some ⟨H.next + 2, 0, none⟩, t.args.length, rfl, hbd, ?_⟩, hx7⟩
        rw [hi', List.take_of_length_le (Nat.le_refl _)] at hfl
        refine (hfl.heap (fun n hn _ => ?_) hx'.wf).row (Nat.le_refl _) (Nat.le_trans hfew (by simp [maxLen])) (cells := cells') ?_ (by omega) ⟨by omega, hlt3⟩ (fun h => ?_) (fun n hn => ⟨by have := hn.1; omega, hn.2⟩)
        · have := hn.1
          rw [get_put, if_neg (by omega), get_put, if_neg (by omega)]
        · rw [get_put, if_neg (by omega), get_put, if_neg (by omega)]; exact gr'
        · have := h.1; omega
    · refine ⟨_, _, 0, repL t.args.length zero6, fun _ _ => False, fun _ => none, fun _ => 0, rfl, rfl, by omega, (by first | (simp only [Tr.get_put, Nat.reduceEqDiff, reduceCtorEq, if_true, if_false]; rfl) | simp only [Tr.get_put, Nat.reduceEqDiff, reduceCtorEq, if_true, if_false]), (by first | (simp only [Tr.get_put, Nat.reduceEqDiff, reduceCtorEq, if_true, if_false]; rfl) | simp only [Tr.get_put, Nat.reduceEqDiff, reduceCtorEq, if_true, if_false]), by rw [hn2]; first | (simp only [Tr.get_put, Nat.reduceEqDiff, reduceCtorEq, if_true, if_false]; rfl) | simp only [Tr.get_put, Nat.reduceEqDiff, reduceCtorEq, if_true, if_false], (by first | (simp only [Tr.get_put, Nat.reduceEqDiff, reduceCtorEq, if_true, if_false]; rfl) | simp only [Tr.get_put, Nat.reduceEqDiff, reduceCtorEq, if_true, if_false]), (by first | (simp only [Tr.get_put, Nat.reduceEqDiff, reduceCtorEq, if_true, if_false]; rfl) | simp only [Tr.get_put, Nat.reduceEqDiff, reduceCtorEq, if_true, if_false]), (by first | (simp only [sA, Nat.reduceEqDiff, reduceCtorEq, if_true, if_false]; rfl) | simp only []), gp3, gq3, gr, by rw [repL_length]; rfl, FLs.nil, hx23⟩
end Go.Proofs.YtlllbkjiadcloaaDoor.hb
end

-- V2
section
/- Trees in memory of their own: one more at a list's end; the reference's Own. -/
namespace Go.Hb
open Go Go.RowKit
theorem six_ones {t : Tm} {a : Option Addr} {c : Nat} : (six t a c).all one = true := rfl
theorem ones_chunks {cells : List Value} : ∀ n, n * 6 ≤ cells.length → (∀ i, i < n → ((cells.drop (i * 6)).take 6).all one = true) → (cells.take (n * 6)).all one = true
  | 0, _, _ => by simp
  | n + 1, h, hc => by
    rw [Nat.succ_mul, List.take_add, List.all_append, ones_chunks n (by omega) fun i hi => hc i (by omega), hc n (by omega)]; rfl
theorem take_chunk {cells : List Value} {i n : Nat} (h : i < n) (vs : List Value) (hn : n * 6 ≤ cells.length) : ((cells.take (n * 6) ++ vs).drop (i * 6)).take 6 = (cells.drop (i * 6)).take 6 := by
  have h1 : (cells.take (n * 6)).length = n * 6 := by rw [List.length_take]; omega
  rw [List.drop_append_of_le_length (by omega), List.take_append_of_le_length (by rw [List.length_drop]; omega), List.drop_take, List.take_take]
  congr 1; omega
/-- ONE MORE TREE AT A LIST's END -/
theorem FL.push {P : Program} {T t : TypeId} (hp : apOk P t T 6) {H : Heap} {S N S2 : Nat → Prop} {l : List Tm} {u : Tm} {a a' : Option Addr} {c c' c1 : Nat} {ad : Addr} (h : FL H T S l a c) (hw : H.wf)
    (hl : H.load ad (1 * 6) = some (six u a' c')) (hu : FL H T N u.args a' c') (hb : Bd u) (hN : ∀ n, N n → ¬ S n) (hS : ∀ n, S n → n < H.next) (hNl : ∀ n, N n → n < H.next) (hm : l.length + 1 ≤ most) (h2 : ∀ n, S n ∨ N n ∨ n = H.next → S2 n) :
    ∃ H2, dAp P #[t, t] (.slice a l.length c) (.slice (some ad) 1 c1) H = some (.val (.slice (some ⟨H.next, 0, none⟩) (l.length + 1) (l.length + 1)) H2) ∧ FL H2 T S2 (l ++ [u]) (some ⟨H.next, 0, none⟩) (l.length + 1) ∧ HK S H H2 ∧ H2.next = H.next + 1 := by
  have hmax : l.length + 1 ≤ maxLen := Nat.le_trans hm (by simp [most, maxLen])
  cases h with
  | nil =>
    have hx := (HX.refl hw).new (some (.row (six u a' c') T))
    refine ⟨_, dAp_new hp (by omega) hm hl six_ones, ?_, hx.hk _, rfl⟩
    refine .row S2 [u] H.next 1 (six u a' c') (fun _ => N) (fun _ => a') (fun _ => c') (Nat.le_refl _) hmax gt_new_eq (Nat.le_refl _) ?_ ?_ (h2 _ (.inr (.inr rfl))) ?_ ?_ ?_ ?_
    · intro i v hv
      match i, hv with
      | 0, hv => cases hv; rfl
    · intro i v hv
      match i, hv with
      | 0, hv => cases hv; exact hb
    · intro i _ hn; have := hNl _ hn; omega
    · intro i n _ hn; exact h2 n (.inr (.inl hn))
    · intro i j n hi hj _ _
      simp at hi hj; omega
    · intro i v hv
      match i, hv with
      | 0, hv => cases hv; exact hu.keep hx hw
  | row _ _ b c cells Si ai ci h1 h2' h3 h4 h5 h6 h7 h8 h9 h10 h11 =>
    have hcells : (cells.take (l.length * 6)).all one = true := ones_chunks _ h4 fun i hi => by rw [h5 i l[i] (List.getElem?_eq_getElem hi)]; exact six_ones
    have hbn : b < H.next := hw _ _ h3
    have hk : HK S H ((H.put b none).new (some (.row (cells.take (l.length * 6) ++ six u a' c') T))) := ((HK.refl hw).put (.inl h7) hbn none).new _
    have hkeep : ∀ n, n < H.next → n ≠ b → ((H.put b none).new (some (.row (cells.take (l.length * 6) ++ six u a' c') T))).get n = H.get n := fun n hn hne => by
      rw [gt_new_lt (by rw [next_put]; exact hn), gt_put_ne hne]
    refine ⟨_, dAp_row hp (by omega) hm hl six_ones h3 h4 hcells, ?_, hk, rfl⟩
    have hfs : FLs H T (fun n => ∃ i, i < l.length ∧ Si i n) l cells Si ai ci := ⟨h5, h6, fun i n hi hn => ⟨i, hi, hn⟩, h10, h11⟩
    have hSb : ¬ ∃ i, i < l.length ∧ Si i b := fun ⟨i, hi, hn⟩ => h8 i hi hn
    have hsub : ∀ n, (∃ i, i < l.length ∧ Si i n) → S n := fun n ⟨i, hi, hn⟩ => h9 i n hi hn
    have hlen : (cells.take (l.length * 6)).length = l.length * 6 := by rw [List.length_take]; omega
    have hs := hfs.snoc (H' := (H.put b none).new (some (.row (cells.take (l.length * 6) ++ six u a' c') T))) (S' := fun n => (∃ i, i < l.length ∧ Si i n) ∨ N n) (N := N) (cells' := cells.take (l.length * 6) ++ six u a' c') (t := u) (a := a') (c := c')
      (fun n hn hl => hkeep n hl (fun e => hSb (e ▸ hn))) hw (hu.heap (fun n hn hl => hkeep n hl fun e => hN n hn (e ▸ h7)) hw) hb (fun n hn hq => hN n hn (hsub n hq)) (fun n hn => .inl hn) (fun n hn => .inr hn)
      (fun i hi => take_chunk hi _ h4) (by
        rw [List.drop_append_of_le_length (by omega), List.drop_eq_nil_of_le (by omega)]; rfl)
    refine hs.row (S' := S2) (by simp) hmax gt_new_eq (by simp; omega) (h2 _ (.inr (.inr rfl))) (fun hq => ?_) (fun n hn => ?_)
    · rcases hq with hq | hq
      · have := hS _ (hsub _ hq); simp at this
      · have := hNl _ hq; simp at this
    · rcases hn with hn | hn
      · exact h2 n (.inl (hsub n hn))
      · exact h2 n (.inr (.inl hn))
end Go.Hb
namespace Go.Proofs.YtlllbkjiadcloaaDoor.hb
open Go Go.RowKit Go.Hb
variable {ok : Ok}
set_option maxRecDepth 10000
attribute [local irreducible] LX LG EL STG SOP SGO SGD SAL SRD SEF SEG SLK SCK ES
-- @veq
/-- so many nodes side by side at most, all through -/
inductive Few (n : Nat) : Tm → Prop
  | mk {t : Tm} : t.args.length ≤ n → (∀ u ∈ t.args, Few n u) → Few n t
theorem Few.len {n : Nat} {t : Tm} (h : Few n t) : t.args.length ≤ n := by cases h; assumption
theorem Few.args {n : Nat} {t : Tm} (h : Few n t) : ∀ u ∈ t.args, Few n u := by cases h; assumption
theorem Few.up {n m : Nat} {t : Tm} (f : Few n t) (h : n ≤ m) : Few m t := by
  induction f with
  | mk h1 _ ih => exact .mk (Nat.le_trans h1 h) ih
theorem Fine.few : ∀ (m : Nat) {t : Tm}, SizeOf.sizeOf t < m → Fine t → Few 64 t
  | 0, _, h, _ => by omega
  | m + 1, t, h, f => .mk (fine_few f) fun u hu => Fine.few m (by have := mem_args_size hu; omega) (f.args u hu)

-- hornbeamref02.Own
set_option maxHeartbeats 4000000 in
theorem ownR_ev {m : Nat} : ∀ {t : Tm} {cs : List Value} {H : Heap}, SizeOf.sizeOf t < m → RepT H t cs → Few 1000000 t → H.wf →
    EvF Tryd.prog okT 34 [.agg ⟨cs⟩] H fun v H' => ∃ cs', v = .agg ⟨cs'⟩ ∧ RepF H' 26 (Rg H.next H'.next) t cs' ∧ HX H H' := by
  induction m with
  | zero => intro t cs H h; omega
  | succ m ih =>
  intro t cs H hsz r hf hw
  have hbd := r.bd
  have hfew := hf.len
  obtain ⟨a, c, cells, rfl, -, -, -, -, -, rl⟩ := r.six
  refine EvF.enter rfl Tryd.func34 (by decide) rfl ?_
  (repeat refine EvC.seq ?_); refine EvC.reg ?_; simp (config := { maxSteps := 2000000 }) (disch := first | omega | rfl) only [sA, initTm, dBox, dAlloc, Value.cells, one, if_true, zr26]
  obtain ⟨H2, e2, hx2, gp, gq, hn2, hw2⟩ := new2 hw (.row (six t a c) 26) (.row zero6 26)
  simp only [e2]
  have q1 := row6 gp
  clear e2
  (repeat refine EvC.seq ?_); refine EvC.reg ?_; simp (config := { maxSteps := 2000000 }) (disch := first | omega | rfl) only [sA, dAlloc, Nat.reduceEqDiff, Nat.reduceAdd, one, reduceCtorEq, if_true, if_false, zr26, ld26, st26, q1]
  obtain ⟨H3, e3, hx3, gr, hn3, hw3⟩ := newput hw2 (.row zero6 26) (.row (six t a c) 26)
  simp only [e3]
  clear e3
  rw [hn2] at gr hn3
  simp only [hn2]
  (repeat refine EvC.seq ?_); refine EvC.reg ?_; simp (config := { maxSteps := 2000000 }) (disch := first | omega | rfl) only [sA, Nat.reduceEqDiff, Nat.reduceAdd, one, reduceCtorEq, if_true, if_false, fa26_5, st24, gr]
  have hx23 := hx2.trans hx3
  have gp3 := hx3.get hw2 gp
  have gq3 := hx3.get hw2 gq
  have hmax := rl.max
  (repeat refine EvC.seq ?_); refine EvC.reg ?_; simp (config := { maxSteps := 2000000 }) (disch := first | omega | rfl) only [sA]
  refine EvC.meet (fun st => ∃ tm H' ar cr, st = ⟨tm, [], H'⟩ ∧ tm.get 2 = some (.pointer (some ⟨H.next + 1, 0, none⟩)) ∧ tm.get 3 = some (.pointer (some ⟨H.next + 2, 0, none⟩)) ∧
      H'.get (H.next + 1) = some (.row zero6 26) ∧ H'.get (H.next + 2) = some (.row (six t ar cr) 26) ∧ FL H' 26 (Rg (H.next + 3) H'.next) t.args ar cr ∧ HX H H') ?_ ?_
  · refine EvC.block (EvC.loop (fun k st => ∃ tm H' i ar cr, st = ⟨tm, [], H'⟩ ∧ k = t.args.length - i ∧ i ≤ t.args.length ∧
      tm.get 1 = some (.pointer (some ⟨H.next, 0, none⟩)) ∧ tm.get 2 = some (.pointer (some ⟨H.next + 1, 0, none⟩)) ∧ tm.get 3 = some (.pointer (some ⟨H.next + 2, 0, none⟩)) ∧ tm.get 4 = some (.int .i64 (i : Nat)) ∧
      H'.get H.next = some (.row (six t a c) 26) ∧ H'.get (H.next + 1) = some (.row zero6 26) ∧
      H'.get (H.next + 2) = some (.row [.int .i64 t.kind, .string t.name, .string t.num, .int .u64 t.bits, .int .i64 t.var, .slice ar i cr] 26) ∧
      FL H' 26 (Rg (H.next + 3) H'.next) (t.args.take i) ar cr ∧ HX H H') ?_ t.args.length _ ?_)
    · rintro k st ⟨tm, H', i, ar, cr, rfl, rfl, hi, t1, t2, t3, t4, gp', gq', gr', hfl, hx'⟩
      have q1 := row6 gp'
      by_cases hlt : i < t.args.length
      · obtain ⟨b, o, a1, c1, rfl, hld, hr1⟩ := rl.el hlt
        have hld1 := hx'.load hw hld
        repeat' (first | refine EvC.seq ?_ | refine EvC.scope ?_ | refine EvC.block ?_ | (refine EvC.skip ?_; try simp only [thenC_normal]) | (refine EvC.exit ?_) | (refine EvC.ret ?_; try simp only [thenC_ret, inBlock_ret]) | (refine EvC.reg ?_; simp (config := { maxSteps := 2000000 }) (disch := first | omega | rfl) only [sA, Nat.reduceEqDiff, if_true, if_false, fa26_5, ld24, ln24, t1, t4, q1, decl hlt]) | (refine EvC.drw [([(2, 0), (3, 0), (4, 0), (5, 0), (6, 0)], some 7), ([(0, 0), (1, 0), (8, 1)], some 9), ([(10, 2)], some 11), ([], none)] ?_ ?_; kernel_rfl; simp (config := { maxSteps := 2000000 }) (disch := first | omega | rfl) only [sD, sA, Nat.reduceEqDiff, Nat.reduceAdd, reduceCtorEq, if_true, if_false, ld26, fa26_5, ld24, ia24, cl34, t1, t4, q1, hld1, isAlloc, isRead, reduceCtorEq]) | (refine EvC.condT ?_ ?_; simp (config := { maxSteps := 2000000 }) (disch := first | omega | rfl) only [sA, Nat.reduceEqDiff, if_true, if_false]; refine EvC_go ?_))
        have hb := hx'.bump 12
        have hs := args_size (List.getElem?_eq_getElem hlt)
        refine (ih (t := t.args[i]) (by omega) (hr1.mono hb hw) (hf.args _ (List.getElem_mem _)) hb.wf).mono ?_
        rintro v H5 ⟨cs', rfl, ⟨a2, c2, rfl, hb2, hf2⟩, hx5⟩
        have hb5 := ((HX.refl hx'.wf).bump 12).trans hx5
        have gp5 := hb5.get hx'.wf gp'
        have gq5 := hb5.get hx'.wf gq'
        have gr5 := hb5.get hx'.wf gr'
        have q3 := row6 gr5
        have q3' := row6 gr'
        have ean : apOk Tryd.prog 24 26 6 := ap24
        have hn5 := hx5.next
        have hn5' : H'.next + 12 ≤ H5.next := hn5
        have hltr := hx'.wf _ _ gr'
        have hx6 : HX H' (H5.put (H'.next + 8) (some (.row (six t.args[i] a2 c2) 26))) := hb5.put (i := H'.next + 8) (Nat.le_add_right _ _) (by omega) _
        obtain ⟨H6, e6⟩ : ∃ H6, H5.put (H'.next + 8) (some (.row (six t.args[i] a2 c2) 26)) = H6 := ⟨_, rfl⟩
        have g6 : H6.get (H'.next + 8) = some (.row (six t.args[i] a2 c2) 26) := by rw [← e6, get_put, if_pos rfl]
        have hn6 : H6.next = H5.next := by rw [← e6, next_put]
        have hf6 : FL H6 26 (Rg (H'.next + 12) H5.next) t.args[i].args a2 c2 := hf2.heap (fun n hn _ => by have : H'.next + 12 ≤ n := hn.1; rw [← e6, get_put, if_neg (by omega)]) hx5.wf
        rw [e6] at hx6
        have etl : (t.args.take i).length = i := by rw [List.length_take]; omega
        obtain ⟨H7, e7, hf7, hk7, hn7⟩ := FL.push (S2 := Rg (H.next + 3) (H6.next + 1)) (c1 := 1) ean (hfl.keep hx6 hx'.wf) hx6.wf (row6 g6).2.2.2.2.2.2 hf6 hb2 (fun n hn hs => by have : H'.next + 12 ≤ n := hn.1; have := hs.2; omega) (fun n hn => by have := hn.2; omega) (fun n hn => by have := hn.2; omega)
          (by rw [etl]; unfold most; omega) (fun n hn => by
            rcases hn with hn | hn | hn
            · exact ⟨hn.1, by have := hn.2; omega⟩
            · exact ⟨by have : H'.next + 12 ≤ n := hn.1; omega, by have := hn.2; omega⟩
            · exact ⟨by omega, by omega⟩)
        rw [etl] at e7 hf7
        have hx7 : HX H H7 := (hx'.trans hx6).then hk7 fun n hn hs => by have := hs.1; omega
        have gp7 := hk7.get hx6.wf (hx6.get hx'.wf gp') (fun hs => by have := hs.1; omega)
        have gq7 := hk7.get hx6.wf (hx6.get hx'.wf gq') (fun hs => by have := hs.1; omega)
        have gr7 := hk7.get hx6.wf (hx6.get hx'.wf gr') (fun hs => by have := hs.1; omega)
        have q3'' := row6 gr7
        repeat' (first | refine EvC.seq ?_ | refine EvC.scope ?_ | refine EvC.block ?_ | (refine EvC.skip ?_) | (refine EvC.exit ?_) | (refine EvC.ret ?_; try simp only [thenC_ret, inBlock_ret]) | (refine EvC.reg ?_; simp (config := { maxSteps := 2000000 }) (disch := first | omega | rfl) only [sA, Nat.reduceEqDiff, if_true, if_false, t4, wrap_i64]) | (refine SCK_go ?_; simp (config := { maxSteps := 2000000 }) (disch := first | omega | rfl) only [sV, sD, sA, Nat.reduceEqDiff, Nat.reduceAdd, Value.cells, one, reduceCtorEq, if_true, if_false, layC, fa26_5, st24, ld24, bs24_1, t3, q3, q3', e6, e7, gr7, isAlloc, isRead, dalloc, reduceCtorEq]))
        have et : t.args.take (i + 1) = t.args.take i ++ [t.args[i]] := (List.take_append_getElem hlt).symm
        exact ⟨t.args.length - (i + 1), by omega, _, _, i + 1, some ⟨H6.next, 0, none⟩, i + 1, rfl, rfl, by omega, (by first | (simp only [Tr.get_put, Nat.reduceEqDiff, if_false, t1]; rfl) | simp only [Tr.get_put, Nat.reduceEqDiff, if_false, t1]), (by first | (simp only [Tr.get_put, Nat.reduceEqDiff, if_false, t2]; rfl) | simp only [Tr.get_put, Nat.reduceEqDiff, if_false, t2]), (by first | (simp only [Tr.get_put, Nat.reduceEqDiff, if_false, t3]; rfl) | simp only [Tr.get_put, Nat.reduceEqDiff, if_false, t3]), (by first | (simp only [sA, Nat.reduceEqDiff, if_true, if_false]; rfl) | simp only []), by rw [get_put, if_neg (by omega)]; exact gp7, by rw [get_put, if_neg (by omega)]; exact gq7, by rw [get_put, if_pos rfl],
          by
            rw [et]
            refine (hf7.heap (H' := H7.put (H.next + 2) _) (fun n hn _ => ?_) hx7.wf).sub (fun n hn => ⟨hn.1, by rw [next_put, hn7]; exact hn.2⟩)
            have := hn.1
            rw [get_put, if_neg (by omega)], hx7.pt (by omega) gr7 _⟩
      · repeat' (first | refine EvC.seq ?_ | refine EvC.scope ?_ | refine EvC.block ?_ | (refine EvC.skip ?_) | (refine EvC.exit ?_; try simp only [sA, reduceCtorEq, if_true]) | (refine EvC.ret ?_; try simp only [thenC_ret, inBlock_ret]) | (refine EvC.reg ?_; simp (config := { maxSteps := 2000000 }) (disch := first | omega | rfl) only [sA, Nat.reduceEqDiff, if_true, if_false, fa26_5, ld24, ln24, t1, t4, q1, decn hlt]) | (refine EvC.condT ?_ ?_; simp (config := { maxSteps := 2000000 }) (disch := first | omega | rfl) only [sA, Nat.reduceEqDiff, if_true, if_false]; refine EvC_go ?_) | (refine EvC.condF ?_ ?_; simp (config := { maxSteps := 2000000 }) (disch := first | omega | rfl) only [sA, Nat.reduceEqDiff, if_true, if_false]; refine EvC_go ?_))
        have hi' : i = t.args.length := by omega
        subst hi'
        rw [List.take_of_length_le (Nat.le_refl _)] at hfl
        exact ⟨_, _, ar, cr, rfl, (by first | (simp only [Tr.get_put, Nat.reduceEqDiff, if_false, t2]; rfl) | simp only [Tr.get_put, Nat.reduceEqDiff, if_false, t2]), (by first | (simp only [Tr.get_put, Nat.reduceEqDiff, if_false, t3]; rfl) | simp only [Tr.get_put, Nat.reduceEqDiff, if_false, t3]), gq', gr', hfl, hx'⟩
    · exact ⟨_, _, 0, none, 0, rfl, rfl, by omega, (by first | (simp only [Tr.get_put, Nat.reduceEqDiff, reduceCtorEq, if_true, if_false]; rfl) | simp only [Tr.get_put, Nat.reduceEqDiff, reduceCtorEq, if_true, if_false]), (by first | (simp only [Tr.get_put, Nat.reduceEqDiff, reduceCtorEq, if_true, if_false]; rfl) | simp only [Tr.get_put, Nat.reduceEqDiff, reduceCtorEq, if_true, if_false]), (by first | (simp only [Tr.get_put, Nat.reduceEqDiff, reduceCtorEq, if_true, if_false]; rfl) | simp only [Tr.get_put, Nat.reduceEqDiff, reduceCtorEq, if_true, if_false]), (by first | (simp only [sA, Nat.reduceEqDiff, reduceCtorEq, if_true, if_false]; rfl) | simp only []), by rw [get_put, if_neg (by omega)]; exact gp3, by rw [get_put, if_neg (by omega)]; exact gq3, by rw [get_put, if_pos rfl], .nil _, hx23.pt (by omega) gr _⟩
  · rintro st ⟨tm, H', ar, cr, rfl, t2, t3, gq', gr', hfl, hx'⟩
    have q3 := row6 gr'
    have hlt := hx'.wf _ _ gr'
    repeat' (first | refine EvC.seq ?_ | refine EvC.scope ?_ | refine EvC.block ?_ | (refine EvC.skip ?_) | (refine EvC.exit ?_) | (refine EvC.ret ?_; try simp only [thenC_ret, inBlock_ret]) | (refine EvC.reg ?_; simp (config := { maxSteps := 2000000 }) (disch := first | omega | rfl) only [sA, Nat.reduceEqDiff, Nat.reduceAdd, one, if_true, if_false, ld26, st26, t2, t3, q3, gq']))
    have hx6 := hx'.pt (i := H.next + 1) (by omega) gq' (some (.row (six t ar cr) 26))
    refine leave_cell rfl (by first | (simp only [sA, Nat.reduceEqDiff, if_false, t2]; rfl) | simp only []) (by first | (simp only [sA, Nat.reduceAdd, if_true, cutC, ld26]; rfl) | simp only [sA, Nat.reduceAdd, if_true, cutC, ld26]) ⟨_, rfl, ⟨ar, cr, rfl, hbd, (hfl.heap (fun n hn _ => ?_) hx'.wf).sub fun n hn => ⟨by have := hn.1; omega, hn.2⟩⟩, hx6⟩
    have := hn.1
    rw [get_put, if_neg (by omega)]
end Go.Proofs.YtlllbkjiadcloaaDoor.hb
end
