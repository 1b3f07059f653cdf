import Derived.Test.YtlllbkjiadcloaaDoorM4
import Derived.Test.YtlllbkjiadcloaaDoorM3
import Derived.Lib.ValidLaws
/- Lemmas on the program's own code, towards the laws of this folder, part 5. Conditions: as each lemma says. -/
-- W5a
section
namespace Go.Proofs.YtlllbkjiadcloaaDoor.hb
open Go Go.RowKit Go.Hb
def rho0 (n : Int) : Operand → Value
  | .func f => .func (.func f) #[] #[]
  | _ => .int .u64 n
theorem zat (n : Int) (d : Option Tmp) (k : Tmp) (ats : Array TypeId) (ty : TypeId) (pos : String) (af : Array Edge) (g : Option (Nat × Bool)) :
    pureRun Tryd.prog (execOp (rho0 n) ⟨d, .call ⟨.value (.func 89), #[.tmp k], ats⟩, ty, pos, af, g⟩) = some (.value (.float .f64 n.toNat)) := by kernel_rfl
theorem zj8 (l : List Value) : dcall1 Tryd.prog 89 l = none := by
  unfold dcall1
  rw [Tryd.func89]
  rfl
theorem z2n {d : Option Tmp} {k : Tmp} {ats : Array TypeId} {ty : TypeId} {pos : String} {af : Array Edge} {g : Option (Nat × Bool)} {tm : Tr Value} {H : Heap} {n : Int} (hv : tm.get k = some (.int .u64 n)) :
    dop Tryd.prog ⟨d, .call ⟨.value (.func 89), #[.tmp k], ats⟩, ty, pos, af, g⟩ (ev tm) H = some (.val (.float .f64 n.toNat) H) := by
  have hρ : ∀ y ∈ (⟨d, .call ⟨.value (.func 89), #[.tmp k], ats⟩, ty, pos, af, g⟩ : Oper).op.operands, ev tm y = rho0 n y := by
    intro y hy
    simp [Op.operands, Call.operands] at hy
    rcases hy with rfl | rfl
    · rfl
    · show (tm.get k).getD junk = _
      rw [hv]; rfl
  have e : dop Tryd.prog ⟨d, .call ⟨.value (.func 89), #[.tmp k], ats⟩, ty, pos, af, g⟩ (ev tm) H = dflat Tryd.prog ⟨d, .call ⟨.value (.func 89), #[.tmp k], ats⟩, ty, pos, af, g⟩ (ev tm) H := by
    simp only [dop, ev, zj8]
  have hf : allFlat (ev tm) (⟨d, .call ⟨.value (.func 89), #[.tmp k], ats⟩, ty, pos, af, g⟩ : Oper) = true := by
    unfold allFlat
    rw [List.all_eq_true]
    intro y hy
    rw [hρ y (Array.mem_toList_iff.1 hy)]
    simp [Op.operands, Call.operands] at hy
    rcases hy with rfl | rfl <;> rfl
  rw [e]
  unfold dflat
  rw [hf, execOp_congr _ (by intro cs b h; cases h) hρ, zat]
  rfl
end Go.Proofs.YtlllbkjiadcloaaDoor.hb
end

-- W5
section
namespace Go.Proofs.YtlllbkjiadcloaaDoor.hb
open Go Go.RowKit Go.Hb
def TellsN (ok : Ok) (f g h : FuncId) (fn fi : Int → Bool) : Prop := ∀ (n : Int) (H : Heap) , u64 n → H.wf → EvF Tryd.prog ok g [.float .f64 n.toNat] H (fun v H' => v = .bool (fn n) ∧ HX H H') ∧ EvF Tryd.prog ok h [.float .f64 n.toNat, .int .i64 0] H (fun v H' => v = .bool (fi n) ∧ HX H H')
theorem zm3 : callable Tryd.prog 103 = true := by kernel_rfl
theorem zm4 : callable Tryd.prog 104 = true := by kernel_rfl
variable {ok : Ok}
set_option maxRecDepth 10000 in
set_option maxHeartbeats 8000000 in
theorem zm5 {utf num : ByteArray → Bool} {fn fi : Int → Bool} (hk : ∀ args H, ok.K 84 args H = none) (hm : ok.testBit 84 = true) (hk2 : ∀ args H, ok.K 100 args H = none) (hm2 : ok.testBit 100 = true)
    (hU : TellsS ok 101 utf) (hN : TellsS ok 102 num) (hF : TellsN ok 89 103 104 fn fi)
    {t : Tm} {cs : List Value} {H : Heap} (r : RepT H t cs) (hw : H.wf) : EvF Tryd.prog ok 84 [.agg ⟨cs⟩] H fun v H' => v = .int .i64 (nodeE utf num (fun n => !(fn n || fi n || n == 9223372036854775808)) t) ∧ HX H H' := by
  have rr := r
  obtain ⟨a, c, cells, rfl, b1, b2, b3, b4, b5, rl⟩ := r.inv
  have hx := (HX.refl hw).new (some (Blk.row [Value.int IntKind.i64 t.kind, Value.string t.name, Value.string t.num, Value.int IntKind.u64 t.bits, Value.int IntKind.i64 t.var, Value.slice a t.args.length c] 26))
  refine EvF.enter (hk _ _) Tryd.func84 hm rfl ?_
  (repeat refine EvC.seq ?_); refine EvC.reg ?_; simp (config := { maxSteps := 2000000 }) (disch := first | omega | rfl) only [sB, initTm, dBox, Value.cells, one]
  (repeat refine EvC.seq ?_); refine EvC.block ?_
  refine EvC.seq (EvC.reg ?_)
  by_cases hno : t.kind < 1 ∨ 5 < t.kind
  · have hlt : decide (t.kind < 1) = true ∨ (decide (t.kind < 1) = false ∧ decide (t.kind > 5) = true) := by
      by_cases h : t.kind < 1
      · exact .inl (by simp [h])
      · exact .inr ⟨by simp [h], by simp; omega⟩
    rcases hlt with h | ⟨h, h'⟩
    · try simp (config := { maxSteps := 2000000 }) (disch := first | omega | rfl) only [sB, Nat.reduceEqDiff, reduceCtorEq, cutC, h, z05 z1l one3, z07 agg3]
      refine EvC.condT (by simp only [sB, Nat.reduceEqDiff, reduceCtorEq]) ?_
      (repeat refine EvC.seq ?_); refine EvC.reg ?_; simp (config := { maxSteps := 2000000 }) (disch := first | omega | rfl) only [sA]
      refine EvC.ret ?_
      try simp (config := { maxSteps := 2000000 }) (disch := first | omega | rfl) only [sA]
      exact z04 rfl (by simp only [sG, Nat.reduceEqDiff, reduceCtorEq]; rfl) ⟨by rw [nodeE, if_pos hno], hx⟩
    · try simp (config := { maxSteps := 2000000 }) (disch := first | omega | rfl) only [sB, Nat.reduceEqDiff, reduceCtorEq, cutC, h, h', z05 z1l one3, z07 agg3, Bool.false_eq_true]
      refine EvC.condT (by simp only [sB, Nat.reduceEqDiff, reduceCtorEq]) ?_
      (repeat refine EvC.seq ?_); refine EvC.reg ?_; simp (config := { maxSteps := 2000000 }) (disch := first | omega | rfl) only [sA]
      refine EvC.ret ?_
      try simp (config := { maxSteps := 2000000 }) (disch := first | omega | rfl) only [sA]
      exact z04 rfl (by simp only [sG, Nat.reduceEqDiff, reduceCtorEq]; rfl) ⟨by rw [nodeE, if_pos hno], hx⟩
  have q1 : decide (t.kind < 1) = false := by simp; omega
  have q2 : decide (t.kind > 5) = false := by simp; omega
  try simp (config := { maxSteps := 2000000 }) (disch := first | omega | rfl) only [sB, Nat.reduceEqDiff, Nat.reduceAdd, reduceCtorEq, cutC, q1, q2, z05 z1l one3, z07 agg3, Bool.false_eq_true, z0k z4a, z1k, z08 zlx]
  refine (zj7 hk2 hm2 (rr.mono hx hw) hx.wf).mono ?_
  rintro v H2 ⟨rfl, hx2⟩
  have hxx := hx.trans hx2
  have hb2 : H2.get H.next = some (Blk.row [Value.int IntKind.i64 t.kind, Value.string t.name, Value.string t.num, Value.int IntKind.u64 t.bits, Value.int IntKind.i64 t.var, Value.slice a t.args.length c] 26) := by rw [hx2.keep _ (Nat.lt_succ_self _), Heap.get_new, if_pos rfl]
  have l0 : H2.load ⟨H.next, 0, none⟩ 1 = some [.int .i64 t.kind] := by simp only [Heap.load, Heap.cells, hb2]; rfl
  have l1 : H2.load ⟨H.next, 1, none⟩ 1 = some [.string t.name] := by simp only [Heap.load, Heap.cells, hb2]; rfl
  have l2 : H2.load ⟨H.next, 2, none⟩ 1 = some [.string t.num] := by simp only [Heap.load, Heap.cells, hb2]; rfl
  have l3 : H2.load ⟨H.next, 3, none⟩ 1 = some [.int .u64 t.bits] := by simp only [Heap.load, Heap.cells, hb2]; rfl
  have l4 : H2.load ⟨H.next, 4, none⟩ 1 = some [.int .i64 t.var] := by simp only [Heap.load, Heap.cells, hb2]; rfl
  have l5 : H2.load ⟨H.next, 5, none⟩ 1 = some [.slice a t.args.length c] := by simp only [Heap.load, Heap.cells, hb2]; rfl
  cases hbl : blankB t with
  | false =>
    try simp (config := { maxSteps := 2000000 }) (disch := first | omega | rfl) only [sB, Nat.reduceEqDiff, reduceCtorEq, Bool.not_false, Bool.false_eq_true]
    refine EvC.condT (by simp only [sB, Nat.reduceEqDiff, reduceCtorEq]) ?_
    (repeat refine EvC.seq ?_); refine EvC.reg ?_; simp (config := { maxSteps := 2000000 }) (disch := first | omega | rfl) only [sA]
    refine EvC.ret ?_
    try simp (config := { maxSteps := 2000000 }) (disch := first | omega | rfl) only [sA]
    exact z04 rfl (by simp only [sG, Nat.reduceEqDiff, reduceCtorEq]; rfl) ⟨by rw [nodeE, if_neg hno, if_pos hbl], hxx⟩
  | true =>
  by_cases hv : t.var < 0
  · have hd : decide (t.var < 0) = true := decide_eq_true hv
    try simp (config := { maxSteps := 2000000 }) (disch := first | omega | rfl) only [sB, Nat.reduceEqDiff, reduceCtorEq, l4, hd, z05 z4b one3, z07 agg3, Bool.not_true, Bool.false_eq_true]
    refine EvC.condT (by simp only [sB, Nat.reduceEqDiff, reduceCtorEq]) ?_
    (repeat refine EvC.seq ?_); refine EvC.reg ?_; simp (config := { maxSteps := 2000000 }) (disch := first | omega | rfl) only [sA]
    refine EvC.ret ?_
    try simp (config := { maxSteps := 2000000 }) (disch := first | omega | rfl) only [sA]
    exact z04 rfl (by simp only [sG, Nat.reduceEqDiff, reduceCtorEq]; rfl) ⟨by rw [z73 hno hbl (by unfold bndB; rw [hd]; rfl)], hxx⟩
  have hd : decide (t.var < 0) = false := decide_eq_false hv
  try simp (config := { maxSteps := 2000000 }) (disch := first | omega | rfl) only [sB, Nat.reduceEqDiff, reduceCtorEq, l4, hd, z05 z4b one3, z07 agg3, Bool.not_true, Bool.false_eq_true]
  refine EvC.condF (by simp only [sB, Nat.reduceEqDiff, reduceCtorEq]) ?_
  refine EvC.frame (fun tm => tm.get 1 = some (.pointer (some ⟨H.next, 0, none⟩))) (by simp only [sG, Nat.reduceEqDiff, reduceCtorEq]) ?_
  rintro tm g1
  refine EvC.seq ?_
  refine EvC.join (fun st => ∃ tm, st = ⟨tm, [], H2⟩ ∧ tm.get 1 = some (.pointer (some ⟨H.next, 0, none⟩)) ∧ tm.get 23 = some (.bool (t.kind == 5 && ((t.args.length : Int) == 0 || decide ((t.args.length : Int) > 64))))) ?_ ?_
  · refine EvC.reg ?_
    cases h2 : (t.kind == 5) <;> cases h3 : ((t.args.length : Int) == 0) <;> cases h4 : decide ((t.args.length : Int) > 64)
    all_goals
      try simp (config := { maxSteps := 2000000 }) (disch := first | omega | rfl) only [sB, Nat.reduceEqDiff, g1, l0, l5, h2, h3, h4, z05 z1l one3, z05 z1t z4x, z07 agg3, z07 z5d, z0l Tryd.underlying24, Bool.false_eq_true]
      exact ⟨_, rfl, by simp only [sG, Nat.reduceEqDiff]; exact g1, by simp only [sG, Nat.reduceEqDiff]; rfl⟩
  clear g1 tm
  rintro st ⟨tm, rfl, g1, g23⟩
  try simp (config := { maxSteps := 2000000 }) (disch := first | omega | rfl) only [z02]
  cases hbad : (t.kind == 5 && ((t.args.length : Int) == 0 || decide ((t.args.length : Int) > 64))) with
  | true =>
    rw [hbad] at g23
    refine EvC.condT (by simp only [sA, g23]) ?_
    (repeat refine EvC.seq ?_); refine EvC.reg ?_; simp (config := { maxSteps := 2000000 }) (disch := first | omega | rfl) only [sA]
    refine EvC.ret ?_
    try simp (config := { maxSteps := 2000000 }) (disch := first | omega | rfl) only [sA]
    exact z04 rfl (by simp only [sG]; rfl) ⟨by rw [z73 hno hbl (by unfold bndB; rw [hd, hbad]; rfl)], hxx⟩
  | false =>
  rw [hbad] at g23
  have hne := z89 (utf := utf) (num := num) (flt := fun n => !(fn n || fi n || n == 9223372036854775808)) hno hbl (by unfold bndB; rw [hd, hbad]; rfl)
  refine EvC.condF (by simp only [sA, g23]) ?_
  (repeat refine EvC.seq ?_); refine EvC.reg ?_; simp (config := { maxSteps := 2000000 }) (disch := first | omega | rfl) only [sB, Nat.reduceEqDiff, g1, l1, z05 z1u one9, z07 agg9, z08 zly]
  refine (hU t.name _ b2 hx2.wf).mono ?_
  rintro v H3 ⟨rfl, hx3⟩
  have hxx3 := hxx.trans hx3
  have hlt2 : H.next < H2.next := Nat.lt_of_lt_of_le (Nat.lt_succ_self _) hx2.next
  have hb3 : H3.get H.next = some (Blk.row [Value.int IntKind.i64 t.kind, Value.string t.name, Value.string t.num, Value.int IntKind.u64 t.bits, Value.int IntKind.i64 t.var, Value.slice a t.args.length c] 26) := by rw [hx3.keep _ hlt2]; exact hb2
  have m0 : H3.load ⟨H.next, 0, none⟩ 1 = some [.int .i64 t.kind] := by simp only [Heap.load, Heap.cells, hb3]; rfl
  have m1 : H3.load ⟨H.next, 1, none⟩ 1 = some [.string t.name] := by simp only [Heap.load, Heap.cells, hb3]; rfl
  have m2 : H3.load ⟨H.next, 2, none⟩ 1 = some [.string t.num] := by simp only [Heap.load, Heap.cells, hb3]; rfl
  have m3 : H3.load ⟨H.next, 3, none⟩ 1 = some [.int .u64 t.bits] := by simp only [Heap.load, Heap.cells, hb3]; rfl
  cases hu : utf t.name with
  | false =>
    try simp (config := { maxSteps := 2000000 }) (disch := first | omega | rfl) only [sB, Nat.reduceEqDiff, Bool.not_false]
    refine EvC.condT (by simp only [sB, Nat.reduceEqDiff]) ?_
    (repeat refine EvC.seq ?_); refine EvC.reg ?_; simp (config := { maxSteps := 2000000 }) (disch := first | omega | rfl) only [sA]
    refine EvC.ret ?_
    try simp (config := { maxSteps := 2000000 }) (disch := first | omega | rfl) only [sA]
    exact z04 rfl (by simp only [sG, Nat.reduceEqDiff]; rfl) ⟨by rw [hne, if_pos hu], hxx3⟩
  | true =>
  rw [if_neg (by rw [hu]; simp)] at hne
  by_cases hlen : 1000 < t.name.size
  · have hd : decide ((t.name.size : Int) > 1000) = true := decide_eq_true (by omega)
    try simp (config := { maxSteps := 2000000 }) (disch := first | omega | rfl) only [sB, Nat.reduceEqDiff, g1, m1, hd, z05 z1u one9, z07 agg9, z17 Tryd.underlying9, Bool.not_true, Bool.false_eq_true]
    refine EvC.condT (by simp only [sB, Nat.reduceEqDiff]) ?_
    (repeat refine EvC.seq ?_); refine EvC.reg ?_; simp (config := { maxSteps := 2000000 }) (disch := first | omega | rfl) only [sA]
    refine EvC.ret ?_
    try simp (config := { maxSteps := 2000000 }) (disch := first | omega | rfl) only [sA]
    exact z04 rfl (by simp only [sG, Nat.reduceEqDiff]; rfl) ⟨by rw [hne, if_pos hlen], hxx3⟩
  rw [if_neg hlen] at hne
  have hd2 : decide ((t.name.size : Int) > 1000) = false := decide_eq_false (by omega)
  try simp (config := { maxSteps := 2000000 }) (disch := first | omega | rfl) only [sB, Nat.reduceEqDiff, g1, m1, hd2, z05 z1u one9, z07 agg9, z17 Tryd.underlying9, Bool.not_true, Bool.false_eq_true]
  refine EvC.condF (by simp only [sB, Nat.reduceEqDiff]) ?_
  refine EvC.frame (fun tm => tm.get 1 = some (.pointer (some ⟨H.next, 0, none⟩))) (by simp only [sG, Nat.reduceEqDiff]; exact g1) ?_
  clear g1 g23 tm
  rintro tm g1
  refine EvC.seq (EvC.reg ?_)
  by_cases k3 : t.kind = 3
  · have q3 : (t.kind == 3) = true := by simp [k3]
    have q4 : (t.kind == 4) = false := by simp [k3]
    try simp (config := { maxSteps := 2000000 }) (disch := first | omega | rfl) only [sB, Nat.reduceEqDiff, g1, m0, m2, q3, z05 z1l one3, z05 z3i one9, z07 agg9, z07 agg3, z08 zlz]
    refine (hN t.num _ b3 hx3.wf).mono ?_
    rintro v H4 ⟨rfl, hx4⟩
    have hb4 : H4.get H.next = some (Blk.row [Value.int IntKind.i64 t.kind, Value.string t.name, Value.string t.num, Value.int IntKind.u64 t.bits, Value.int IntKind.i64 t.var, Value.slice a t.args.length c] 26) := by rw [hx4.keep _ (Nat.lt_of_lt_of_le hlt2 hx3.next)]; exact hb3
    have n0 : H4.load ⟨H.next, 0, none⟩ 1 = some [.int .i64 t.kind] := by simp only [Heap.load, Heap.cells, hb4]; rfl
    cases hn : num t.num with
    | false =>
      try simp (config := { maxSteps := 2000000 }) (disch := first | omega | rfl) only [sB, Nat.reduceEqDiff, Bool.not_false]
      refine EvC.condT (by simp only [sB, Nat.reduceEqDiff]) ?_
      (repeat refine EvC.seq ?_); refine EvC.reg ?_; simp (config := { maxSteps := 2000000 }) (disch := first | omega | rfl) only [sA]
      refine EvC.ret ?_
      try simp (config := { maxSteps := 2000000 }) (disch := first | omega | rfl) only [sA]
      exact z04 rfl (by simp only [sG, Nat.reduceEqDiff]; rfl) ⟨by rw [hne, if_pos ⟨k3, hn⟩], hxx3.trans hx4⟩
    | true =>
      try simp (config := { maxSteps := 2000000 }) (disch := first | omega | rfl) only [sB, Nat.reduceEqDiff, Bool.not_true]
      refine EvC.condF (by simp only [sB, Nat.reduceEqDiff]) (EvC.skip ?_)
      try simp (config := { maxSteps := 2000000 }) (disch := first | omega | rfl) only [sA]
      (repeat refine EvC.seq ?_); refine EvC.reg ?_; simp (config := { maxSteps := 2000000 }) (disch := first | omega | rfl) only [sB, Nat.reduceEqDiff, g1, n0, q4, z05 z1l one3, z07 agg3]
      refine EvC.condF (by simp only [sB, Nat.reduceEqDiff]) (EvC.skip ?_)
      try simp (config := { maxSteps := 2000000 }) (disch := first | omega | rfl) only [z02]
      (repeat refine EvC.seq ?_); refine EvC.reg ?_; simp (config := { maxSteps := 2000000 }) (disch := first | omega | rfl) only [sA]
      refine EvC.ret ?_
      try simp (config := { maxSteps := 2000000 }) (disch := first | omega | rfl) only []
      exact z04 rfl (by simp only [sG, Nat.reduceEqDiff]; rfl) ⟨by rw [hne, if_neg (by rw [hn]; simp), if_neg (by rw [k3]; simp)], hxx3.trans hx4⟩
  have q3 : (t.kind == 3) = false := by simp [k3]
  rw [if_neg (fun h => k3 h.1)] at hne
  try simp (config := { maxSteps := 2000000 }) (disch := first | omega | rfl) only [sB, Nat.reduceEqDiff, g1, m0, q3, z05 z1l one3, z07 agg3, Bool.false_eq_true]
  refine EvC.condF (by simp only [sB, Nat.reduceEqDiff]) (EvC.skip ?_)
  try simp (config := { maxSteps := 2000000 }) (disch := first | omega | rfl) only [sA]
  by_cases k4 : t.kind = 4
  · have q4 : (t.kind == 4) = true := by simp [k4]
    (repeat refine EvC.seq ?_); refine EvC.reg ?_; simp (config := { maxSteps := 2000000 }) (disch := first | omega | rfl) only [sB, Nat.reduceEqDiff, g1, m0, q4, z05 z1l one3, z07 agg3]
    refine EvC.condT (by simp only [sB, Nat.reduceEqDiff]) ?_
    (repeat refine EvC.seq ?_); refine EvC.reg ?_; simp (config := { maxSteps := 2000000 }) (disch := first | omega | rfl) only [sB, Nat.reduceEqDiff, g1, m3, z05 z38 z96, z07 zas]
    rw [z2n (n := t.bits) (by simp only [sG, Nat.reduceEqDiff])]
    try simp (config := { maxSteps := 2000000 }) (disch := first | omega | rfl) only [sB, Nat.reduceEqDiff]
    refine EvC.frame (fun tm => tm.get 1 = some (.pointer (some ⟨H.next, 0, none⟩)) ∧ tm.get 3 = some (.float .f64 t.bits.toNat)) ⟨by simp only [sG, Nat.reduceEqDiff]; exact g1, by simp only [sG, Nat.reduceEqDiff]⟩ ?_
    clear g1 tm
    rintro tm ⟨g1, g3⟩
    (repeat refine EvC.seq ?_); refine EvC.reg ?_; simp (config := { maxSteps := 2000000 }) (disch := first | omega | rfl) only [sB, Nat.reduceEqDiff, g3, z08 zm3]
    refine (hF t.bits _ b4 hx3.wf).1.mono ?_
    rintro v H4 ⟨rfl, hx4⟩
    have hb4 : H4.get H.next = some (Blk.row [Value.int IntKind.i64 t.kind, Value.string t.name, Value.string t.num, Value.int IntKind.u64 t.bits, Value.int IntKind.i64 t.var, Value.slice a t.args.length c] 26) := by rw [hx4.keep _ (Nat.lt_of_lt_of_le hlt2 hx3.next)]; exact hb3
    cases hn : fn t.bits with
    | true =>
      try simp (config := { maxSteps := 2000000 }) (disch := first | omega | rfl) only [sB, Nat.reduceEqDiff]
      refine EvC.condT (by simp only [sB, Nat.reduceEqDiff]) ?_
      (repeat refine EvC.seq ?_); refine EvC.reg ?_; simp (config := { maxSteps := 2000000 }) (disch := first | omega | rfl) only [sA]
      refine EvC.ret ?_
      try simp (config := { maxSteps := 2000000 }) (disch := first | omega | rfl) only [z01]
      exact z04 rfl (by simp only [sG, Nat.reduceEqDiff]; rfl) ⟨by rw [hne, if_pos ⟨k4, by rw [hn]; rfl⟩], hxx3.trans hx4⟩
    | false =>
    try simp (config := { maxSteps := 2000000 }) (disch := first | omega | rfl) only [sB, Nat.reduceEqDiff, g3, Bool.false_eq_true, z08 zm4]
    refine (hF t.bits _ b4 hx4.wf).2.mono ?_
    rintro v H5 ⟨rfl, hx5⟩
    have hb5 : H5.get H.next = some (Blk.row [Value.int IntKind.i64 t.kind, Value.string t.name, Value.string t.num, Value.int IntKind.u64 t.bits, Value.int IntKind.i64 t.var, Value.slice a t.args.length c] 26) := by rw [hx5.keep _ (Nat.lt_of_lt_of_le (Nat.lt_of_lt_of_le hlt2 hx3.next) hx4.next)]; exact hb4
    have n3 : H5.load ⟨H.next, 3, none⟩ 1 = some [.int .u64 t.bits] := by simp only [Heap.load, Heap.cells, hb5]; rfl
    cases hi : fi t.bits with
    | true =>
      try simp (config := { maxSteps := 2000000 }) (disch := first | omega | rfl) only [sB, Nat.reduceEqDiff]
      refine EvC.condT (by simp only [sB, Nat.reduceEqDiff]) ?_
      (repeat refine EvC.seq ?_); refine EvC.reg ?_; simp (config := { maxSteps := 2000000 }) (disch := first | omega | rfl) only [sA]
      refine EvC.ret ?_
      try simp (config := { maxSteps := 2000000 }) (disch := first | omega | rfl) only [z01]
      exact z04 rfl (by simp only [sG, Nat.reduceEqDiff]; rfl) ⟨by rw [hne, if_pos ⟨k4, by rw [hn, hi]; rfl⟩], (hxx3.trans hx4).trans hx5⟩
    | false =>
    cases hz : (t.bits == 9223372036854775808) with
    | true =>
      try simp (config := { maxSteps := 2000000 }) (disch := first | omega | rfl) only [sB, Nat.reduceEqDiff, g1, n3, hz, z05 z38 z96, z07 zas, Bool.false_eq_true]
      refine EvC.condT (by simp only [sB, Nat.reduceEqDiff]) ?_
      (repeat refine EvC.seq ?_); refine EvC.reg ?_; simp (config := { maxSteps := 2000000 }) (disch := first | omega | rfl) only [sA]
      refine EvC.ret ?_
      try simp (config := { maxSteps := 2000000 }) (disch := first | omega | rfl) only [z01]
      exact z04 rfl (by simp only [sG, Nat.reduceEqDiff]; rfl) ⟨by rw [hne, if_pos ⟨k4, by rw [hn, hi, hz]; rfl⟩], (hxx3.trans hx4).trans hx5⟩
    | false =>
      try simp (config := { maxSteps := 2000000 }) (disch := first | omega | rfl) only [sB, Nat.reduceEqDiff, g1, n3, hz, z05 z38 z96, z07 zas, Bool.false_eq_true]
      refine EvC.condF (by simp only [sB, Nat.reduceEqDiff]) (EvC.skip ?_)
      try simp (config := { maxSteps := 2000000 }) (disch := first | omega | rfl) only [z02]
      (repeat refine EvC.seq ?_); refine EvC.reg ?_; simp (config := { maxSteps := 2000000 }) (disch := first | omega | rfl) only [sA]
      refine EvC.ret ?_
      try simp (config := { maxSteps := 2000000 }) (disch := first | omega | rfl) only []
      exact z04 rfl (by simp only [sG, Nat.reduceEqDiff]; rfl) ⟨by rw [hne, if_neg (by rw [hn, hi, hz]; simp)], (hxx3.trans hx4).trans hx5⟩
  have q4 : (t.kind == 4) = false := by simp [k4]
  (repeat refine EvC.seq ?_); refine EvC.reg ?_; simp (config := { maxSteps := 2000000 }) (disch := first | omega | rfl) only [sB, Nat.reduceEqDiff, g1, m0, q4, z05 z1l one3, z07 agg3]
  refine EvC.condF (by simp only [sB, Nat.reduceEqDiff]) (EvC.skip ?_)
  try simp (config := { maxSteps := 2000000 }) (disch := first | omega | rfl) only [z02]
  (repeat refine EvC.seq ?_); refine EvC.reg ?_; simp (config := { maxSteps := 2000000 }) (disch := first | omega | rfl) only [sA]
  refine EvC.ret ?_
  try simp (config := { maxSteps := 2000000 }) (disch := first | omega | rfl) only []
  exact z04 rfl (by simp only [sG, Nat.reduceEqDiff]; rfl) ⟨by rw [hne, if_neg (fun h => k4 h.1)], hxx3⟩
end Go.Proofs.YtlllbkjiadcloaaDoor.hb
end

-- W6
section
namespace Go.Proofs.YtlllbkjiadcloaaDoor.hb
open Go Go.RowKit Go.Hb
theorem zkt : callable Tryd.prog 50 = true := by kernel_rfl
theorem zku : callable Tryd.prog 51 = true := by kernel_rfl
theorem znh : callable Tryd.prog 84 = true := by kernel_rfl
theorem zni : callable Tryd.prog 85 = true := by kernel_rfl
mutual
def allE (E : Tm → Int) : Tm → Int
  | .mk k s u b v l => if E (.mk k s u b v l) = 0 then allL E l else E (.mk k s u b v l)
def allL (E : Tm → Int) : List Tm → Int
  | [] => 0
  | t :: l => if allE E t = 0 then allL E l else allE E t
end
theorem z74 (E : Tm → Int) (t : Tm) : allE E t = if E t = 0 then allL E t.args else E t := by
  obtain ⟨k, s, u, b, v, l⟩ := t
  rw [allE]; rfl
theorem zau {E : Tm → Int} {l : List Tm} {i : Nat} {t : Tm} (h : l[i]? = some t) : allL E (l.drop i) = if allE E t = 0 then allL E (l.drop (i + 1)) else allE E t := by
  have hlt := (List.getElem?_eq_some_iff.1 h).1
  have he : l[i] = t := (List.getElem?_eq_some_iff.1 h).2
  rw [List.drop_eq_getElem_cons hlt, allL, he]
def checkE (E : Tm → Int) (t : Tm) : Int := if 4000 < cnt t 0 then 24 else allE E t
def TellsT (ok : Ok) (f : FuncId) (E : Tm → Int) : Prop := ∀ (t : Tm) (cs : List Value) (H : Heap), RepT H t cs → H.wf → EvF Tryd.prog ok f [.agg ⟨cs⟩] H fun v H' => v = .int .i64 (E t) ∧ HX H H'
theorem zkv {n : Int} (h : n ≠ 0) : (n != 0) = true := by simp [h]
theorem zkw {n : Int} (h : n = 0) : (n != 0) = false := by simp [h]
variable {ok : Ok}
set_option maxRecDepth 10000 in
set_option maxHeartbeats 2000000 in
theorem zav {E : Tm → Int} (hE : TellsT ok 84 E) (hk : ∀ args H, ok.K 50 args H = none) (hm : ok.testBit 50 = true) : TellsT ok 50 (allE E) := by
  have main : ∀ (m : Nat) {t : Tm} {cs : List Value} {H : Heap}, SizeOf.sizeOf t < m → RepT H t cs → H.wf → EvF Tryd.prog ok 50 [.agg ⟨cs⟩] H fun v H' => v = .int .i64 (allE E t) ∧ HX H H' := by
    intro m
    induction m with
    | zero => intro t cs H h; omega
    | succ m ih =>
    intro t cs H hsz r hw
    have rr := r
    obtain ⟨a, c, cells, rfl, b1, b2, b3, b4, b5, rl⟩ := r.inv
    have hx := (HX.refl hw).new (some (Blk.row [Value.int IntKind.i64 t.kind, Value.string t.name, Value.string t.num, Value.int IntKind.u64 t.bits, Value.int IntKind.i64 t.var, Value.slice a t.args.length c] 26))
    refine EvF.enter (hk _ _) Tryd.func50 hm rfl ?_
    (repeat refine EvC.seq ?_); refine EvC.reg ?_; simp (config := { maxSteps := 2000000 }) (disch := first | omega | rfl) only [sB, initTm, dBox, Value.cells, one]
    (repeat refine EvC.seq ?_); refine EvC.reg ?_; simp (config := { maxSteps := 2000000 }) (disch := first | omega | rfl) only [sB, Nat.reduceEqDiff, Nat.reduceAdd, reduceCtorEq, cutC, z0k z4a, z1k, z08 znh]
    refine (hE t _ _ (rr.mono hx hw) hx.wf).mono ?_
    rintro v H2 ⟨rfl, hx2⟩
    have hxx := hx.trans hx2
    have hb2 : H2.get H.next = some (Blk.row [Value.int IntKind.i64 t.kind, Value.string t.name, Value.string t.num, Value.int IntKind.u64 t.bits, Value.int IntKind.i64 t.var, Value.slice a t.args.length c] 26) := by rw [hx2.keep _ (Nat.lt_succ_self _), Heap.get_new, if_pos rfl]
    have l5 : H2.load ⟨H.next, 5, none⟩ 1 = some [.slice a t.args.length c] := by simp only [Heap.load, Heap.cells, hb2]; rfl
    try simp (config := { maxSteps := 2000000 }) (disch := first | omega | rfl) only []
    by_cases he : E t = 0
    · (repeat refine EvC.seq ?_); refine EvC.reg ?_; simp (config := { maxSteps := 2000000 }) (disch := first | omega | rfl) only [sB, Nat.reduceEqDiff, reduceCtorEq, zkw he]
      refine EvC.condF (by simp only [sB, Nat.reduceEqDiff, reduceCtorEq]) (EvC.skip ?_)
      try simp (config := { maxSteps := 2000000 }) (disch := first | omega | rfl) only [z02]
      (repeat refine EvC.seq ?_); refine EvC.reg ?_; simp (config := { maxSteps := 2000000 }) (disch := first | omega | rfl) only [sB, Nat.reduceEqDiff, reduceCtorEq, z05 z1t z4x, z07 z5d, l5, z0l Tryd.underlying24]
      (repeat refine EvC.seq ?_); refine EvC.block (EvC.loop (fun k st => ∃ tm H' i, st = ⟨tm, [], H'⟩ ∧ k = t.args.length - i ∧ i ≤ t.args.length ∧ allL E (t.args.drop i) = allE E t ∧
        tm.get 13 = some (.slice a t.args.length c) ∧ tm.get 14 = some (.int .i64 t.args.length) ∧ tm.get 15 = some (.int .i64 (i : Nat)) ∧ HX H H') ?_ t.args.length _ ?_)
      · rintro k st ⟨tm, H', i, rfl, hk', hi, hc, g13, g14, g15, hx'⟩
        (repeat refine EvC.seq ?_); refine EvC.reg ?_; simp (config := { maxSteps := 2000000 }) (disch := first | omega | rfl) only [sA, g14, g15]
        by_cases hlt : i < t.args.length
        · (repeat refine EvC.seq ?_); refine EvC.condT (by simp only [sB]; exact congrArg _ (decide_eq_true (by omega))) (EvC.skip ?_)
          obtain ⟨b, o, rfl, hload, hrep⟩ := rl.at (i := i) (List.getElem?_eq_getElem hlt)
          obtain ⟨a', c', cells', hcell, -⟩ := hrep.inv
          have hld := hx'.load hw hload
          rw [hcell] at hld hrep
          try simp (config := { maxSteps := 2000000 }) (disch := first | omega | rfl) only [z02]
          (repeat refine EvC.seq ?_); refine EvC.block ?_
          (repeat refine EvC.seq ?_); refine EvC.reg ?_; simp (config := { maxSteps := 2000000 }) (disch := first | omega | rfl) only [sB, dAlloc, Nat.reduceEqDiff, Nat.reduceAdd, one, g13, g15, z14 Tryd.underlying24 z88 hlt, z0k z4a, z1k, hld, zkr, z58 z88]
          (repeat refine EvC.seq ?_); refine EvC.reg ?_; simp (config := { maxSteps := 2000000 }) (disch := first | omega | rfl) only [sB, Nat.reduceEqDiff, Nat.reduceAdd, cutC, z0k z4a, z1k, z08 zkt]
          have hx3 := (hx'.new (some (Blk.row [Value.int IntKind.i64 0, Value.string ByteArray.empty, Value.string ByteArray.empty, Value.int IntKind.u64 0, Value.int IntKind.i64 0, Value.slice none 0 0] 26))).put (i := H'.next) hx'.next (Nat.lt_succ_self _)
            (some (.row [Value.int IntKind.i64 t.args[i].kind, Value.string t.args[i].name, Value.string t.args[i].num, Value.int IntKind.u64 t.args[i].bits, Value.int IntKind.i64 t.args[i].var, Value.slice a' t.args[i].args.length c'] 26))
          have ht : t.args[i]? = some t.args[i] := List.getElem?_eq_getElem hlt
          have hs := z1h ht
          refine (ih (t := t.args[i]) (by omega) (hrep.mono hx3 hw) hx3.wf).mono ?_
          rintro v H4 ⟨rfl, hx4⟩
          have hL : t.args.length ≤ 9223372036854775807 := Nat.le_trans rl.len rl.cap
          have hd := zau (E := E) ht
          try simp (config := { maxSteps := 2000000 }) (disch := first | omega | rfl) only []
          by_cases hz : allE E t.args[i] = 0
          · (repeat refine EvC.seq ?_); refine EvC.reg ?_; simp (config := { maxSteps := 2000000 }) (disch := first | omega | rfl) only [sB, Nat.reduceEqDiff, zkw hz]
            refine EvC.condF (by simp only [sB, Nat.reduceEqDiff]) (EvC.skip ?_)
            try simp (config := { maxSteps := 2000000 }) (disch := first | omega | rfl) only [sA]
            (repeat refine EvC.seq ?_); refine EvC.reg ?_; simp (config := { maxSteps := 2000000 }) (disch := first | omega | rfl) only [sB, Nat.reduceEqDiff, g15, z06]
            exact ⟨t.args.length - (i + 1), by omega, _, _, i + 1, rfl, rfl, by omega, by rw [← hc, hd, if_pos hz], by simp only [sG, Nat.reduceEqDiff]; exact g13, by simp only [sG, Nat.reduceEqDiff]; exact g14, by simp only [sG, Nat.reduceEqDiff]; rfl, hx3.trans hx4⟩
          · (repeat refine EvC.seq ?_); refine EvC.reg ?_; simp (config := { maxSteps := 2000000 }) (disch := first | omega | rfl) only [sB, Nat.reduceEqDiff, zkv hz]
            refine EvC.condT (by simp only [sB, Nat.reduceEqDiff]) ?_
            (repeat refine EvC.seq ?_); refine EvC.reg ?_; simp (config := { maxSteps := 2000000 }) (disch := first | omega | rfl) only [sB, Nat.reduceEqDiff]
            refine EvC.ret ?_
            try simp (config := { maxSteps := 2000000 }) (disch := first | omega | rfl) only [sA]
            exact z04 rfl (by simp only [sG, Nat.reduceEqDiff]; rfl) ⟨by rw [← hc, hd, if_neg hz], hx3.trans hx4⟩
        · (repeat refine EvC.seq ?_); refine EvC.condF (by simp only [sB]; exact congrArg _ (decide_eq_false (by omega))) (EvC.exit ?_)
          try simp (config := { maxSteps := 2000000 }) (disch := first | omega | rfl) only [sB]
          (repeat refine EvC.seq ?_); refine EvC.reg ?_; simp (config := { maxSteps := 2000000 }) (disch := first | omega | rfl) only [sA]
          refine EvC.ret (z04 rfl (by simp only [sG, Nat.reduceEqDiff]; rfl) ⟨?_, hx'⟩)
          rw [← hc, List.drop_of_length_le (by omega), allL]
      · exact ⟨_, _, 0, rfl, rfl, by omega, by rw [z74, if_pos he]; rfl, by simp only [sG, Nat.reduceEqDiff, reduceCtorEq], by simp only [sG, Nat.reduceEqDiff, reduceCtorEq], by simp only [sG, Nat.reduceEqDiff, reduceCtorEq]; rfl, hxx⟩
    · (repeat refine EvC.seq ?_); refine EvC.reg ?_; simp (config := { maxSteps := 2000000 }) (disch := first | omega | rfl) only [sB, Nat.reduceEqDiff, reduceCtorEq, zkv he]
      refine EvC.condT (by simp only [sB, Nat.reduceEqDiff, reduceCtorEq]) ?_
      (repeat refine EvC.seq ?_); refine EvC.reg ?_; simp (config := { maxSteps := 2000000 }) (disch := first | omega | rfl) only [sB, Nat.reduceEqDiff, reduceCtorEq]
      refine EvC.ret ?_
      try simp (config := { maxSteps := 2000000 }) (disch := first | omega | rfl) only [z01]
      exact z04 rfl (by simp only [sG, Nat.reduceEqDiff, reduceCtorEq]; rfl) ⟨by rw [z74, if_neg he], hxx⟩
  exact fun t cs H r hw => main _ (Nat.lt_succ_self _) r hw
end Go.Proofs.YtlllbkjiadcloaaDoor.hb
end

-- W7
section
namespace Go.Proofs.YtlllbkjiadcloaaDoor.hb
open Go Go.RowKit Go.Hb
theorem znj {n : Int} (h : n = 0) : (n == 0) = true := by simp [h]
theorem znk {n : Int} (h : n ≠ 0) : (n == 0) = false := by simp [h]
variable {ok : Ok}
set_option maxRecDepth 10000 in
set_option maxHeartbeats 2000000 in
theorem zf0 {E : Tm → Int} (hE : TellsT ok 85 E) (hk : ∀ args H, ok.K 51 args H = none) (hm : ok.testBit 51 = true) : TellsT ok 51 (allE E) := by
  have main : ∀ (m : Nat) {t : Tm} {cs : List Value} {H : Heap}, SizeOf.sizeOf t < m → RepT H t cs → H.wf → EvF Tryd.prog ok 51 [.agg ⟨cs⟩] H fun v H' => v = .int .i64 (allE E t) ∧ HX H H' := by
    intro m
    induction m with
    | zero => intro t cs H h; omega
    | succ m ih =>
    intro t cs H hsz r hw
    have rr := r
    obtain ⟨a, c, cells, rfl, b1, b2, b3, b4, b5, rl⟩ := r.inv
    have hx := (HX.refl hw).new (some (Blk.row [Value.int IntKind.i64 t.kind, Value.string t.name, Value.string t.num, Value.int IntKind.u64 t.bits, Value.int IntKind.i64 t.var, Value.slice a t.args.length c] 26))
    refine EvF.enter (hk _ _) Tryd.func51 hm rfl ?_
    (repeat refine EvC.seq ?_); refine EvC.reg ?_; simp (config := { maxSteps := 2000000 }) (disch := first | omega | rfl) only [sB, initTm, dBox, Value.cells, one]
    (repeat refine EvC.seq ?_); refine EvC.reg ?_; simp (config := { maxSteps := 2000000 }) (disch := first | omega | rfl) only [sB, Nat.reduceEqDiff, Nat.reduceAdd, reduceCtorEq, cutC, z0k z4a, z1k, z08 zni]
    refine (hE t _ _ (rr.mono hx hw) hx.wf).mono ?_
    rintro v H2 ⟨rfl, hx2⟩
    have hxx := hx.trans hx2
    have hb2 : H2.get H.next = some (Blk.row [Value.int IntKind.i64 t.kind, Value.string t.name, Value.string t.num, Value.int IntKind.u64 t.bits, Value.int IntKind.i64 t.var, Value.slice a t.args.length c] 26) := by rw [hx2.keep _ (Nat.lt_succ_self _), Heap.get_new, if_pos rfl]
    try simp (config := { maxSteps := 2000000 }) (disch := first | omega | rfl) only []
    (repeat refine EvC.seq ?_); refine EvC.reg ?_; simp (config := { maxSteps := 2000000 }) (disch := first | omega | rfl) only [sA]
    have hlt2 : H.next < H2.next := Nat.lt_of_lt_of_le (Nat.lt_succ_self _) hx2.next
    (repeat refine EvC.seq ?_); refine EvC.block (EvC.loop (fun k st => ∃ tm H' i e, st = ⟨tm, [], H'⟩ ∧ k = t.args.length - i ∧ i ≤ t.args.length ∧ (if e = 0 then allL E (t.args.drop i) else e) = allE E t ∧
        tm.get 1 = some (.pointer (some ⟨H.next, 0, none⟩)) ∧ tm.get 3 = some (.int .i64 e) ∧ tm.get 4 = some (.int .i64 (i : Nat)) ∧ H'.get H.next = some (Blk.row [Value.int IntKind.i64 t.kind, Value.string t.name, Value.string t.num, Value.int IntKind.u64 t.bits, Value.int IntKind.i64 t.var, Value.slice a t.args.length c] 26) ∧ H.next < H'.next ∧ HX H H') ?_ t.args.length _ ?_)
    · rintro k st ⟨tm, H', i, e, rfl, hk', hi, hc, g1, g3, g4, hb, hlt0, hx'⟩
      have l5 : H'.load ⟨H.next, 5, none⟩ 1 = some [.slice a t.args.length c] := by simp only [Heap.load, Heap.cells, hb]; rfl
      by_cases hlt : i < t.args.length
      · have hd1 : decide ((i : Int) < (t.args.length : Int)) = true := decide_eq_true (by omega)
        by_cases he : e = 0
        · (repeat refine EvC.seq ?_); refine EvC.reg ?_; simp (config := { maxSteps := 2000000 }) (disch := first | omega | rfl) only [sB, Nat.reduceEqDiff, g1, g3, g4, z05 z1t z4x, z07 z5d, l5, z0l Tryd.underlying24, hd1, znj he]
          (repeat refine EvC.seq ?_); refine EvC.condT (by simp only [sB, Nat.reduceEqDiff]) (EvC.skip ?_)
          obtain ⟨b, o, rfl, hload, hrep⟩ := rl.at (i := i) (List.getElem?_eq_getElem hlt)
          obtain ⟨a', c', cells', hcell, -⟩ := hrep.inv
          have hld := hx'.load hw hload
          rw [hcell] at hld hrep
          try simp (config := { maxSteps := 2000000 }) (disch := first | omega | rfl) only [z02]
          (repeat refine EvC.seq ?_); refine EvC.block ?_
          (repeat refine EvC.seq ?_); refine EvC.reg ?_; simp (config := { maxSteps := 2000000 }) (disch := first | omega | rfl) only [sB, Nat.reduceEqDiff, g1, g4, z05 z1t z4x, z07 z5d, l5, z14 Tryd.underlying24 z88 hlt, z0k z4a, z1k, hld, z08 zku]
          have ht : t.args[i]? = some t.args[i] := List.getElem?_eq_getElem hlt
          have hs := z1h ht
          refine (ih (t := t.args[i]) (by omega) (hrep.mono hx' hw) hx'.wf).mono ?_
          rintro v H4 ⟨rfl, hx4⟩
          have hL : t.args.length ≤ 9223372036854775807 := Nat.le_trans rl.len rl.cap
          try simp (config := { maxSteps := 2000000 }) (disch := first | omega | rfl) only []
          (repeat refine EvC.seq ?_); refine EvC.reg ?_; simp (config := { maxSteps := 2000000 }) (disch := first | omega | rfl) only [sB, Nat.reduceEqDiff, g4, z06]
          exact ⟨t.args.length - (i + 1), by omega, _, _, i + 1, allE E t.args[i], rfl, rfl, by omega, by rw [← hc, if_pos he, zau (E := E) ht], by simp only [sG, Nat.reduceEqDiff]; exact g1, by simp only [sG, Nat.reduceEqDiff], by simp only [sG, Nat.reduceEqDiff]; rfl, by rw [hx4.keep _ hlt0]; exact hb, Nat.lt_of_lt_of_le hlt0 hx4.next, hx'.trans hx4⟩
        · (repeat refine EvC.seq ?_); refine EvC.reg ?_; simp (config := { maxSteps := 2000000 }) (disch := first | omega | rfl) only [sB, Nat.reduceEqDiff, g1, g3, g4, z05 z1t z4x, z07 z5d, l5, z0l Tryd.underlying24, hd1, znk he]
          (repeat refine EvC.seq ?_); refine EvC.condF (by simp only [sB, Nat.reduceEqDiff]) (EvC.exit ?_)
          try simp (config := { maxSteps := 2000000 }) (disch := first | omega | rfl) only [sB]
          (repeat refine EvC.seq ?_); refine EvC.reg ?_; simp (config := { maxSteps := 2000000 }) (disch := first | omega | rfl) only [sB, Nat.reduceEqDiff, g3]
          refine EvC.ret (z04 rfl (by simp only [sG, Nat.reduceEqDiff]; rfl) ⟨by rw [← hc, if_neg he], hx'⟩)
      · have hd1 : decide ((i : Int) < (t.args.length : Int)) = false := decide_eq_false (by omega)
        (repeat refine EvC.seq ?_); refine EvC.reg ?_; simp (config := { maxSteps := 2000000 }) (disch := first | omega | rfl) only [sB, Nat.reduceEqDiff, g1, g4, z05 z1t z4x, z07 z5d, l5, z0l Tryd.underlying24, hd1, Bool.false_eq_true]
        (repeat refine EvC.seq ?_); refine EvC.condF (by simp only [sB, Nat.reduceEqDiff]) (EvC.exit ?_)
        try simp (config := { maxSteps := 2000000 }) (disch := first | omega | rfl) only [sB]
        (repeat refine EvC.seq ?_); refine EvC.reg ?_; simp (config := { maxSteps := 2000000 }) (disch := first | omega | rfl) only [sB, Nat.reduceEqDiff, g3]
        refine EvC.ret (z04 rfl (by simp only [sG, Nat.reduceEqDiff]; rfl) ⟨?_, hx'⟩)
        rw [← hc, List.drop_of_length_le (by omega), allL]
        split
        · rename_i h; rw [h]
        · rfl
    · exact ⟨_, _, 0, E t, rfl, rfl, by omega, by rw [z74]; rfl, by simp only [sG, Nat.reduceEqDiff, reduceCtorEq], by simp only [sG, Nat.reduceEqDiff, reduceCtorEq], by simp only [sG, Nat.reduceEqDiff, reduceCtorEq]; rfl, hb2, hlt2, hxx⟩
  exact fun t cs H r hw => main _ (Nat.lt_succ_self _) r hw
set_option maxRecDepth 10000 in
theorem zj9 {E : Tm → Int} (hN : TellsT ok 13 fun t => cnt t 0) (hE : TellsT ok 50 (allE E)) (hk : ∀ args H, ok.K 15 args H = none) (hm : ok.testBit 15 = true) : TellsT ok 15 (checkE E) := by
  intro t cs H r hw
  have rr := r
  obtain ⟨a, c, cells, rfl, b1, b2, b3, b4, b5, rl⟩ := r.inv
  have hx := (HX.refl hw).new (some (Blk.row [Value.int IntKind.i64 t.kind, Value.string t.name, Value.string t.num, Value.int IntKind.u64 t.bits, Value.int IntKind.i64 t.var, Value.slice a t.args.length c] 26))
  refine EvF.enter (hk _ _) Tryd.func15 hm rfl ?_
  (repeat refine EvC.seq ?_); refine EvC.reg ?_; simp (config := { maxSteps := 2000000 }) (disch := first | omega | rfl) only [sB, initTm, dBox, Value.cells, one]
  (repeat refine EvC.seq ?_); refine EvC.reg ?_; simp (config := { maxSteps := 2000000 }) (disch := first | omega | rfl) only [sB, Nat.reduceEqDiff, Nat.reduceAdd, reduceCtorEq, cutC, z0k z4a, z1k, z08 znb]
  refine (hN t _ _ (rr.mono hx hw) hx.wf).mono ?_
  rintro v H2 ⟨rfl, hx2⟩
  have hxx := hx.trans hx2
  have hb2 : H2.get H.next = some (Blk.row [Value.int IntKind.i64 t.kind, Value.string t.name, Value.string t.num, Value.int IntKind.u64 t.bits, Value.int IntKind.i64 t.var, Value.slice a t.args.length c] 26) := by rw [hx2.keep _ (Nat.lt_succ_self _), Heap.get_new, if_pos rfl]
  have l6 : H2.load ⟨H.next, 0, none⟩ 6 = some [Value.int IntKind.i64 t.kind, Value.string t.name, Value.string t.num, Value.int IntKind.u64 t.bits, Value.int IntKind.i64 t.var, Value.slice a t.args.length c] := by simp only [Heap.load, Heap.cells, hb2]; rfl
  by_cases hov : 4000 < cnt t 0
  · (repeat refine EvC.seq ?_); refine EvC.condT (by simp only [sB, Nat.reduceEqDiff, reduceCtorEq]; exact congrArg _ (decide_eq_true (by omega))) ?_
    (repeat refine EvC.seq ?_); refine EvC.reg ?_; simp (config := { maxSteps := 2000000 }) (disch := first | omega | rfl) only [sA]
    refine EvC.ret ?_
    try simp (config := { maxSteps := 2000000 }) (disch := first | omega | rfl) only [z01]
    exact z04 rfl (by simp only [sG, Nat.reduceEqDiff, reduceCtorEq]; rfl) ⟨by rw [checkE, if_pos hov], hxx⟩
  · (repeat refine EvC.seq ?_); refine EvC.condF (by simp only [sB, Nat.reduceEqDiff, reduceCtorEq]; exact congrArg _ (decide_eq_false (by omega))) (EvC.skip ?_)
    try simp (config := { maxSteps := 2000000 }) (disch := first | omega | rfl) only [sA]
    (repeat refine EvC.seq ?_); refine EvC.reg ?_; simp (config := { maxSteps := 2000000 }) (disch := first | omega | rfl) only [sB, Nat.reduceEqDiff, reduceCtorEq, z0k z4a, z1k, l6, z08 zkt]
    refine (hE t _ _ (rr.mono hxx hw) hx2.wf).mono ?_
    rintro v H3 ⟨rfl, hx3⟩
    try simp (config := { maxSteps := 2000000 }) (disch := first | omega | rfl) only []
    refine EvC.ret ?_
    try simp (config := { maxSteps := 2000000 }) (disch := first | omega | rfl) only []
    exact z04 rfl (by simp only [sG, Nat.reduceEqDiff, reduceCtorEq]; rfl) ⟨by rw [checkE, if_neg hov], hxx.trans hx3⟩
set_option maxRecDepth 10000 in
theorem zaw {E : Tm → Int} (hN : TellsT ok 14 fun t => cnt t 0) (hE : TellsT ok 51 (allE E)) (hk : ∀ args H, ok.K 16 args H = none) (hm : ok.testBit 16 = true) : TellsT ok 16 (checkE E) := by
  intro t cs H r hw
  have rr := r
  obtain ⟨a, c, cells, rfl, b1, b2, b3, b4, b5, rl⟩ := r.inv
  have hx := (HX.refl hw).new (some (Blk.row [Value.int IntKind.i64 t.kind, Value.string t.name, Value.string t.num, Value.int IntKind.u64 t.bits, Value.int IntKind.i64 t.var, Value.slice a t.args.length c] 26))
  refine EvF.enter (hk _ _) Tryd.func16 hm rfl ?_
  (repeat refine EvC.seq ?_); refine EvC.reg ?_; simp (config := { maxSteps := 2000000 }) (disch := first | omega | rfl) only [sB, initTm, dBox, Value.cells, one]
  (repeat refine EvC.seq ?_); refine EvC.reg ?_; simp (config := { maxSteps := 2000000 }) (disch := first | omega | rfl) only [sB, Nat.reduceEqDiff, Nat.reduceAdd, reduceCtorEq, cutC, z0k z4a, z1k, z08 znc]
  refine (hN t _ _ (rr.mono hx hw) hx.wf).mono ?_
  rintro v H2 ⟨rfl, hx2⟩
  have hxx := hx.trans hx2
  have hb2 : H2.get H.next = some (Blk.row [Value.int IntKind.i64 t.kind, Value.string t.name, Value.string t.num, Value.int IntKind.u64 t.bits, Value.int IntKind.i64 t.var, Value.slice a t.args.length c] 26) := by rw [hx2.keep _ (Nat.lt_succ_self _), Heap.get_new, if_pos rfl]
  have l6 : H2.load ⟨H.next, 0, none⟩ 6 = some [Value.int IntKind.i64 t.kind, Value.string t.name, Value.string t.num, Value.int IntKind.u64 t.bits, Value.int IntKind.i64 t.var, Value.slice a t.args.length c] := by simp only [Heap.load, Heap.cells, hb2]; rfl
  by_cases hov : 4000 < cnt t 0
  · (repeat refine EvC.seq ?_); refine EvC.condT (by simp only [sB, Nat.reduceEqDiff, reduceCtorEq]; exact congrArg _ (decide_eq_true (by omega))) ?_
    (repeat refine EvC.seq ?_); refine EvC.reg ?_; simp (config := { maxSteps := 2000000 }) (disch := first | omega | rfl) only [sA]
    refine EvC.ret ?_
    try simp (config := { maxSteps := 2000000 }) (disch := first | omega | rfl) only [z01]
    exact z04 rfl (by simp only [sG, Nat.reduceEqDiff, reduceCtorEq]; rfl) ⟨by rw [checkE, if_pos hov], hxx⟩
  · (repeat refine EvC.seq ?_); refine EvC.condF (by simp only [sB, Nat.reduceEqDiff, reduceCtorEq]; exact congrArg _ (decide_eq_false (by omega))) (EvC.skip ?_)
    try simp (config := { maxSteps := 2000000 }) (disch := first | omega | rfl) only [sA]
    (repeat refine EvC.seq ?_); refine EvC.reg ?_; simp (config := { maxSteps := 2000000 }) (disch := first | omega | rfl) only [sB, Nat.reduceEqDiff, reduceCtorEq, z0k z4a, z1k, l6, z08 zku]
    refine (hE t _ _ (rr.mono hxx hw) hx2.wf).mono ?_
    rintro v H3 ⟨rfl, hx3⟩
    try simp (config := { maxSteps := 2000000 }) (disch := first | omega | rfl) only []
    refine EvC.ret ?_
    try simp (config := { maxSteps := 2000000 }) (disch := first | omega | rfl) only []
    exact z04 rfl (by simp only [sG, Nat.reduceEqDiff, reduceCtorEq]; rfl) ⟨by rw [checkE, if_neg hov], hxx.trans hx3⟩
end Go.Proofs.YtlllbkjiadcloaaDoor.hb
end

-- W8
section
namespace Go.Proofs.YtlllbkjiadcloaaDoor.hb
open Go Go.RowKit Go.Hb
section
variable {P : Program} {H : Heap}
theorem zax {t : TypeId} {x y : Operand} {k : FloatKind} {a b : Nat} : dBin P .neq t x y (.float k a) (.float k b) H = some (.val (.bool (k.format.order a b != some .eq)) H) := by
  simp [dBin, dnil, flat, eqGuard, binOp, Op.floatCmp, Sem.bind]; rfl
theorem z75 {t : TypeId} {x y : Operand} {k : FloatKind} {a b : Nat} : dBin P .gtr t x y (.float k a) (.float k b) H = some (.val (.bool (k.format.order a b == some .gt)) H) := by
  simp [dBin, dnil, flat, eqGuard, binOp, Op.floatCmp, Sem.bind]; rfl
def iAndNot (k : IntKind) (a b : Int) : Int := k.wrap (BitVec.ofInt k.bits a &&& ~~~BitVec.ofInt k.bits b).toNat
def iAnd (k : IntKind) (a b : Int) : Int := k.wrap (BitVec.ofInt k.bits a &&& BitVec.ofInt k.bits b).toNat
theorem zc9 {t : TypeId} {x y : Operand} {k : IntKind} {a b : Int} : dBin P .andNot t x y (.int k a) (.int k b) H = some (.val (.int k (iAndNot k a b)) H) := by
  simp [dBin, dnil, flat, eqGuard, binOp, Op.intBits, Sem.bind, -BitVec.toNat_and, -BitVec.toNat_not, -BitVec.toNat_ofInt]; rfl
theorem zdx {t : TypeId} {x y : Operand} {k : IntKind} {a b : Int} : dBin P .and t x y (.int k a) (.int k b) H = some (.val (.int k (iAnd k a b)) H) := by
  simp [dBin, dnil, flat, eqGuard, binOp, Op.intBits, Sem.bind]; rfl
theorem z5x {t : TypeId} {x y : Operand} {k k' : IntKind} {a b : Int} (h : 0 ≤ b) : dBin P .shr t x y (.int k a) (.int k' b) H = some (.val (.int k (a.fdiv (2 ^ (min b.toNat k.bits)))) H) := by
  have hb : ¬ b < 0 := by omega
  simp [dBin, dnil, flat, eqGuard, binOp, Op.shift, hb, Sem.bind]; rfl
end
def rhoF (n : Nat) : Operand → Value
  | .func f => .func (.func f) #[] #[]
  | _ => .float .f64 n
theorem zja (n : Nat) (d : Option Tmp) (k : Tmp) (ats : Array TypeId) (ty : TypeId) (pos : String) (af : Array Edge) (g : Option (Nat × Bool)) :
    pureRun Tryd.prog (execOp (rhoF n) ⟨d, .call ⟨.value (.func 143), #[.tmp k], ats⟩, ty, pos, af, g⟩) = some (.value (.int .u64 n)) := by kernel_rfl
theorem zh0 (l : List Value) : dcall1 Tryd.prog 143 l = none := by
  unfold dcall1
  rw [Tryd.func143]
  rfl
theorem zjb {d : Option Tmp} {k : Tmp} {ats : Array TypeId} {ty : TypeId} {pos : String} {af : Array Edge} {g : Option (Nat × Bool)} {tm : Tr Value} {H : Heap} {n : Nat} (hv : tm.get k = some (.float .f64 n)) :
    dop Tryd.prog ⟨d, .call ⟨.value (.func 143), #[.tmp k], ats⟩, ty, pos, af, g⟩ (ev tm) H = some (.val (.int .u64 n) H) := by
  have hρ : ∀ y ∈ (⟨d, .call ⟨.value (.func 143), #[.tmp k], ats⟩, ty, pos, af, g⟩ : Oper).op.operands, ev tm y = rhoF n y := by
    intro y hy
    simp [Op.operands, Call.operands] at hy
    rcases hy with rfl | rfl
    · rfl
    · show (tm.get k).getD junk = _
      rw [hv]; rfl
  have e : dop Tryd.prog ⟨d, .call ⟨.value (.func 143), #[.tmp k], ats⟩, ty, pos, af, g⟩ (ev tm) H = dflat Tryd.prog ⟨d, .call ⟨.value (.func 143), #[.tmp k], ats⟩, ty, pos, af, g⟩ (ev tm) H := by
    simp only [dop, ev, zh0]
  have hf : allFlat (ev tm) (⟨d, .call ⟨.value (.func 143), #[.tmp k], ats⟩, ty, pos, af, g⟩ : Oper) = true := by
    unfold allFlat
    rw [List.all_eq_true]
    intro y hy
    rw [hρ y (Array.mem_toList_iff.1 hy)]
    simp [Op.operands, Call.operands] at hy
    rcases hy with rfl | rfl <;> rfl
  rw [e]
  unfold dflat
  rw [hf, execOp_congr _ (by intro cs b h; cases h) hρ, zja]
  rfl
theorem zm6 : callable Tryd.prog 126 = true := by kernel_rfl
def fnB (n : Int) : Bool := FloatKind.f64.format.order n.toNat n.toNat != some .eq
def absN (m : Nat) : Nat := (iAndNot .u64 m 9223372036854775808).toNat
def fiB (n : Int) : Bool := FloatKind.f64.format.order (absN n.toNat) 9218868437227405311 == some .gt
variable {ok : Ok}
set_option maxRecDepth 10000
theorem znl (hk : ∀ args H, ok.K 126 args H = none) (hm : ok.testBit 126 = true) (m : Nat) (H : Heap) (hw : H.wf) : EvF Tryd.prog ok 126 [.float .f64 m] H fun v H' => v = .float .f64 (absN m) ∧ HX H H' := by
  refine EvF.enter (hk _ _) Tryd.func126 hm rfl ?_
  (repeat refine EvC.seq ?_); refine EvC.reg ?_; simp (config := { maxSteps := 2000000 }) (disch := first | omega | rfl) only [sA, initTm]
  (repeat refine EvC.seq ?_); refine EvC.reg ?_; simp (config := { maxSteps := 2000000 }) (disch := first | omega | rfl) only [sB, reduceCtorEq]
  rw [zjb (n := m) (by simp only [sG, Nat.reduceEqDiff, reduceCtorEq])]
  try simp (config := { maxSteps := 2000000 }) (disch := first | omega | rfl) only [sB, Nat.reduceEqDiff, reduceCtorEq, zc9]
  rw [z2n (n := iAndNot .u64 m 9223372036854775808) (by simp only [sG, Nat.reduceEqDiff, reduceCtorEq])]
  try simp (config := { maxSteps := 2000000 }) (disch := first | omega | rfl) only [sB, Nat.reduceEqDiff, reduceCtorEq]
  refine EvC.ret ?_
  exact z04 rfl (by simp only [sG, Nat.reduceEqDiff, reduceCtorEq]; rfl) ⟨rfl, HX.refl hw⟩
theorem zjc (hk : ∀ args H, ok.K 103 args H = none) (hm : ok.testBit 103 = true) (n : Int) (H : Heap) (hw : H.wf) : EvF Tryd.prog ok 103 [.float .f64 n.toNat] H fun v H' => v = .bool (fnB n) ∧ HX H H' := by
  refine EvF.enter (hk _ _) Tryd.func103 hm rfl ?_
  (repeat refine EvC.seq ?_); refine EvC.reg ?_; simp (config := { maxSteps := 2000000 }) (disch := first | omega | rfl) only [sA, initTm]
  (repeat refine EvC.seq ?_); refine EvC.reg ?_; simp (config := { maxSteps := 2000000 }) (disch := first | omega | rfl) only [sB, Nat.reduceEqDiff, reduceCtorEq, zax]
  refine EvC.ret ?_
  exact z04 rfl (by simp only [sG, Nat.reduceEqDiff, reduceCtorEq]; rfl) ⟨rfl, HX.refl hw⟩
theorem zjd (hk : ∀ f args H, (f = 104 ∨ f = 126) → ok.K f args H = none) (hm : ok.testBit 104 = true) (hm2 : ok.testBit 126 = true) (n : Int) (H : Heap) (hw : H.wf) :
    EvF Tryd.prog ok 104 [.float .f64 n.toNat, .int .i64 0] H fun v H' => v = .bool (fiB n) ∧ HX H H' := by
  refine EvF.enter (hk _ _ _ (.inl rfl)) Tryd.func104 hm rfl ?_
  (repeat refine EvC.seq ?_); refine EvC.reg ?_; simp (config := { maxSteps := 2000000 }) (disch := first | omega | rfl) only [sA, initTm]
  (repeat refine EvC.seq ?_); refine EvC.reg ?_; simp (config := { maxSteps := 2000000 }) (disch := first | omega | rfl) only [sB, Nat.reduceEqDiff, reduceCtorEq]
  (repeat refine EvC.seq ?_); refine EvC.condT (by simp only [sB, Nat.reduceEqDiff, reduceCtorEq]; rfl) ?_
  (repeat refine EvC.seq ?_); refine EvC.reg ?_; simp (config := { maxSteps := 2000000 }) (disch := first | omega | rfl) only [sB, Nat.reduceEqDiff, reduceCtorEq, z08 zm6]
  refine (znl (hk 126 · · (.inr rfl)) hm2 n.toNat H hw).mono ?_
  rintro v H2 ⟨rfl, hx⟩
  try simp (config := { maxSteps := 2000000 }) (disch := first | omega | rfl) only []
  (repeat refine EvC.seq ?_); refine EvC.reg ?_; simp (config := { maxSteps := 2000000 }) (disch := first | omega | rfl) only [sB, Nat.reduceEqDiff, reduceCtorEq, z75]
  refine EvC.ret ?_
  exact z04 rfl (by simp only [sG, Nat.reduceEqDiff, reduceCtorEq]; rfl) ⟨rfl, hx⟩
def flB (n : Int) : Bool := !(iAnd .u64 (n.fdiv (2 ^ (min (Int.toNat 52) IntKind.u64.bits))) 2047 == 2047) && !(n == 9223372036854775808)
theorem zh1 (hk : ∀ args H, ok.K 107 args H = none) (hm : ok.testBit 107 = true) : TellsU ok 107 flB := by
  intro n H hn hw
  refine EvF.enter (hk _ _) Tryd.func107 hm rfl ?_
  (repeat refine EvC.seq ?_); refine EvC.reg ?_; simp (config := { maxSteps := 2000000 }) (disch := first | omega | rfl) only [sA, initTm]
  cases h1 : (iAnd .u64 (n.fdiv (2 ^ (min (Int.toNat 52) IntKind.u64.bits))) 2047 == 2047) with
  | true =>
    (repeat refine EvC.seq ?_); refine EvC.reg ?_; simp (config := { maxSteps := 2000000 }) (disch := first | omega | rfl) only [sB, Nat.reduceEqDiff, reduceCtorEq, z5x, zdx, bne, h1, Bool.not_true, Bool.false_eq_true]
    refine EvC.ret ?_
    exact z04 rfl (by simp only [sG, Nat.reduceEqDiff, reduceCtorEq]; rfl) ⟨by unfold flB; rw [h1]; rfl, HX.refl hw⟩
  | false =>
    (repeat refine EvC.seq ?_); refine EvC.reg ?_; simp (config := { maxSteps := 2000000 }) (disch := first | omega | rfl) only [sB, Nat.reduceEqDiff, reduceCtorEq, z5x, zdx, bne, h1, Bool.not_false]
    refine EvC.ret ?_
    exact z04 rfl (by simp only [sG, Nat.reduceEqDiff, reduceCtorEq]; rfl) ⟨by unfold flB; rw [h1]; rfl, HX.refl hw⟩
end Go.Proofs.YtlllbkjiadcloaaDoor.hb
end

-- W9
section
namespace Go.Proofs.YtlllbkjiadcloaaDoor.hb
open Go Go.RowKit Go.Hb
theorem z2o (q : Nat) (h : q < 18446744073709551616) : IntKind.u64.wrap (q : Int) = (q : Int) := by
  rw [IntKind.wrap_u64]; omega
theorem zje (q : Nat) (h : q < 18446744073709551616) : iAnd .u64 (q : Int) 2047 = ((q % 2048 : Nat) : Int) := by
  unfold iAnd
  have e : (BitVec.ofInt IntKind.u64.bits (q : Int) &&& BitVec.ofInt IntKind.u64.bits 2047).toNat = q % 2048 := by
    rw [BitVec.toNat_and]
    have h1 : (BitVec.ofInt IntKind.u64.bits (q : Int)).toNat = q := by
      rw [BitVec.ofInt_natCast, BitVec.toNat_ofNat]
      exact Nat.mod_eq_of_lt h
    have h2 : (BitVec.ofInt IntKind.u64.bits 2047).toNat = 2047 := rfl
    rw [h1, h2]
    exact Nat.and_two_pow_sub_one_eq_mod q 11
  rw [e, z2o _ (by omega)]
theorem zh2 (m : Nat) (h : m < 18446744073709551616) : absN m = m % 9223372036854775808 := by
  unfold absN iAndNot
  have e : (BitVec.ofInt IntKind.u64.bits (m : Int) &&& ~~~BitVec.ofInt IntKind.u64.bits 9223372036854775808).toNat = m % 9223372036854775808 := by
    rw [BitVec.toNat_and]
    have h1 : (BitVec.ofInt IntKind.u64.bits (m : Int)).toNat = m := by
      rw [BitVec.ofInt_natCast, BitVec.toNat_ofNat]
      exact Nat.mod_eq_of_lt h
    have h2 : (~~~BitVec.ofInt IntKind.u64.bits 9223372036854775808).toNat = 9223372036854775807 := rfl
    rw [h1, h2]
    exact Nat.and_two_pow_sub_one_eq_mod m 63
  rw [e, z2o _ (by omega)]
  exact Int.toNat_natCast _
theorem z97 (w : Nat) : Ieee.double.read w =
    if w % 9223372036854775808 < 4503599627370496 then .number (w / 9223372036854775808 % 2 == 1) (w % 9223372036854775808) (-1074)
    else if w % 9223372036854775808 < 9218868437227405312 then .number (w / 9223372036854775808 % 2 == 1) (4503599627370496 + w % 9223372036854775808 % 4503599627370496) (-1074 + ((w % 9223372036854775808 / 4503599627370496 - 1 : Nat) : Int))
    else if w % 9223372036854775808 = 9218868437227405312 then .infinity (w / 9223372036854775808 % 2 == 1)
    else .nan (w / 9223372036854775808 % 2 == 1) (w % 9223372036854775808 - 9218868437227405312) := rfl
theorem zkx (m : Nat) : (FloatKind.f64.format.order m m != some .eq) = decide (9218868437227405312 < m % 9223372036854775808) := by
  show (Ieee.Datum.order (Ieee.double.read m) (Ieee.double.read m) != some .eq) = _
  rw [z97]
  split
  · rename_i h
    rw [decide_eq_false (by omega)]
    simp [Ieee.Datum.order]
  · split
    · rename_i h
      rw [decide_eq_false (by omega)]
      simp [Ieee.Datum.order]
    · split
      · rename_i h
        rw [decide_eq_false (by omega)]
        simp [Ieee.Datum.order]
      · rw [decide_eq_true (by omega)]
        simp [Ieee.Datum.order]
theorem znm (m k : Nat) : m ≤ m <<< k := by
  rw [Nat.shiftLeft_eq]
  exact Nat.le_mul_of_pos_right m (Nat.two_pow_pos k)
theorem zky (g : Nat) (hg : g < 9223372036854775808) : (FloatKind.f64.format.order g 9218868437227405311 == some .gt) = decide (g = 9218868437227405312) := by
  show (Ieee.Datum.order (Ieee.double.read g) (Ieee.double.read 9218868437227405311) == some .gt) = _
  have hM : Ieee.double.read 9218868437227405311 = .number false 9007199254740991 971 := by rw [z97]; rfl
  have hmod : g % 9223372036854775808 = g := Nat.mod_eq_of_lt hg
  have hneg : (g / 9223372036854775808 % 2 == 1) = false := by
    rw [Nat.div_eq_of_lt hg]; rfl
  have key : ∀ (m : Nat) (p : Int), m ≤ 9007199254740991 → p ≤ 971 → (Ieee.Datum.order (.number false m p) (.number false 9007199254740991 971) == some .gt) = false := by
    intro m p hm hp
    simp only [Ieee.Datum.order, Ieee.signed]
    have h1 : min p 971 = p := by omega
    rw [h1]
    have h2 : (p - p).toNat = 0 := by omega
    rw [h2]
    have hle := znm 9007199254740991 (971 - p).toNat
    have hng : compare ((m <<< 0 : Nat) : Int) ((9007199254740991 <<< (971 - p).toNat : Nat) : Int) ≠ .gt := by
      rw [Ne, Int.compare_eq_gt]
      have : m <<< 0 = m := rfl
      rw [this]
      omega
    simpa using hng
  rw [z97, hM, hmod, hneg]
  split
  · rename_i h
    rw [decide_eq_false (by omega)]
    exact key _ _ (by omega) (by omega)
  · split
    · rename_i h
      rw [decide_eq_false (by omega)]
      exact key _ _ (by omega) (by omega)
    · split
      · rename_i h
        rw [decide_eq_true h]
        rfl
      · rename_i h
        rw [decide_eq_false h]
        rfl
theorem zca (n : Int) (hn : u64 n) : flB n = !(fnB n || fiB n || n == 9223372036854775808) := by
  obtain ⟨m, rfl⟩ : ∃ m : Nat, n = m := ⟨n.toNat, by unfold u64 at hn; omega⟩
  have hm : m < 18446744073709551616 := by unfold u64 at hn; omega
  unfold flB fnB fiB
  have hd : (m : Int).fdiv (2 ^ (min (Int.toNat 52) IntKind.u64.bits)) = ((m / 4503599627370496 : Nat) : Int) := by
    show (m : Int).fdiv 4503599627370496 = _
    rw [Int.fdiv_eq_ediv_of_nonneg _ (by omega)]; rfl
  rw [hd, zje _ (by omega), Int.toNat_natCast, zkx, zh2 m hm, zky _ (Nat.mod_lt _ (by omega))]
  have hc : ((((m / 4503599627370496 % 2048 : Nat) : Int) == 2047)) = (decide (9218868437227405312 < m % 9223372036854775808) || decide (m % 9223372036854775808 = 9218868437227405312)) := by
    rw [Bool.eq_iff_iff]
    simp only [beq_iff_eq, Bool.or_eq_true, decide_eq_true_eq]
    omega
  rw [hc]
  cases decide (9218868437227405312 < m % 9223372036854775808) <;> cases decide (m % 9223372036854775808 = 9218868437227405312) <;> cases ((m : Int) == 9223372036854775808) <;> rfl
end Go.Proofs.YtlllbkjiadcloaaDoor.hb
end

-- X1
section
namespace Go.Proofs.YtlllbkjiadcloaaDoor.hb
end Go.Proofs.YtlllbkjiadcloaaDoor.hb
end

-- X2
section
namespace Go.Hb
open Go.Lib
def contR : Nat → List UInt8 → Nat → Option Nat
  | 0, _, c => some c
  | _ + 1, [], _ => none
  | n + 1, b :: l, c => if b.toNat < 128 ∨ 192 ≤ b.toNat then none else contR n l (c * 64 + b.toNat - 128)
def leadR (b : Nat) : Option (Nat × Nat × Nat) :=
  if 192 ≤ b ∧ b < 224 then some (1, 128, b - 192) else if 224 ≤ b ∧ b < 240 then some (2, 2048, b - 224) else if 240 ≤ b ∧ b < 248 then some (3, 65536, b - 240) else none
abbrev badR (lo c : Nat) : Prop := c < lo ∨ 1114111 < c ∨ (55296 ≤ c ∧ c < 57344)
def stepR (l : List UInt8) : Option Nat :=
  match l with
  | [] => none
  | b :: l => match leadR b.toNat with
    | none => none
    | some (n, lo, c) => match contR n l c with
      | none => none
      | some c => if badR lo c then none else some (n + 1)
def utfR : Nat → List UInt8 → Bool
  | 0, _ => true
  | _ + 1, [] => true
  | k + 1, b :: l => if b.toNat < 128 then utfR k l else match stepR (b :: l) with
    | none => false
    | some n => utfR k ((b :: l).drop n)
def stepN (n m b1 b2 b3 : Nat) : Option Nat :=
  if 192 ≤ m ∧ m < 224 then (if n < 2 ∨ b1 < 128 ∨ 192 ≤ b1 then none else if badR 128 ((m - 192) * 64 + b1 - 128) then none else some 2)
  else if 224 ≤ m ∧ m < 240 then (if n < 3 ∨ b1 < 128 ∨ 192 ≤ b1 ∨ b2 < 128 ∨ 192 ≤ b2 then none else if badR 2048 (((m - 224) * 64 + b1 - 128) * 64 + b2 - 128) then none else some 3)
  else if 240 ≤ m ∧ m < 248 then (if n < 4 ∨ b1 < 128 ∨ 192 ≤ b1 ∨ b2 < 128 ∨ 192 ≤ b2 ∨ b3 < 128 ∨ 192 ≤ b3 then none else if badR 65536 ((((m - 240) * 64 + b1 - 128) * 64 + b2 - 128) * 64 + b3 - 128) then none else some 4)
  else none
theorem zof (l : List UInt8) (c : Nat) : contR 1 l c = if l.length + 1 < 2 ∨ (l.getD 0 0).toNat < 128 ∨ 192 ≤ (l.getD 0 0).toNat then none else some (c * 64 + (l.getD 0 0).toNat - 128) := by
  cases l with
  | nil => simp [contR]
  | cons b l =>
    simp only [contR, List.length_cons, List.getD_cons_zero]
    repeat' split
    all_goals first | rfl | (exfalso; omega)
theorem zog (l : List UInt8) (c : Nat) : contR 2 l c = if l.length + 1 < 3 ∨ (l.getD 0 0).toNat < 128 ∨ 192 ≤ (l.getD 0 0).toNat ∨ (l.getD 1 0).toNat < 128 ∨ 192 ≤ (l.getD 1 0).toNat then none else some ((c * 64 + (l.getD 0 0).toNat - 128) * 64 + (l.getD 1 0).toNat - 128) := by
  match l with
  | [] => simp [contR]
  | [b] => simp [contR]
  | a :: b :: l =>
    simp only [contR, List.length_cons, List.getD_cons_zero, List.getD_cons_succ]
    repeat' split
    all_goals first | rfl | (exfalso; omega)
theorem zoh (l : List UInt8) (c : Nat) : contR 3 l c = if l.length + 1 < 4 ∨ (l.getD 0 0).toNat < 128 ∨ 192 ≤ (l.getD 0 0).toNat ∨ (l.getD 1 0).toNat < 128 ∨ 192 ≤ (l.getD 1 0).toNat ∨ (l.getD 2 0).toNat < 128 ∨ 192 ≤ (l.getD 2 0).toNat then none
    else some (((c * 64 + (l.getD 0 0).toNat - 128) * 64 + (l.getD 1 0).toNat - 128) * 64 + (l.getD 2 0).toNat - 128) := by
  match l with
  | [] => simp [contR]
  | [b] => simp [contR]
  | [a, b] => simp [contR]
  | a :: b :: e :: l =>
    simp only [contR, List.length_cons, List.getD_cons_zero, List.getD_cons_succ]
    repeat' split
    all_goals first | rfl | (exfalso; omega)
theorem mif {C : Prop} [Decidable C] (x lo k : Nat) : (match (if C then (none : Option Nat) else some x) with | none => none | some c => if badR lo c then none else some k) = if C then none else if badR lo x then none else some k := by
  by_cases h : C <;> simp [h]
theorem zh3 (b : UInt8) (l : List UInt8) : stepR (b :: l) = stepN (b :: l).length b.toNat ((b :: l).getD 1 0).toNat ((b :: l).getD 2 0).toNat ((b :: l).getD 3 0).toNat := by
  unfold stepR stepN leadR
  simp only [List.length_cons, List.getD_cons_succ]
  by_cases h1 : 192 ≤ b.toNat ∧ b.toNat < 224
  · simp only [if_pos h1]
    rw [zof]; exact mif ..
  · simp only [if_neg h1]
    by_cases h2 : 224 ≤ b.toNat ∧ b.toNat < 240
    · simp only [if_pos h2]
      rw [zog]; exact mif ..
    · simp only [if_neg h2]
      by_cases h3 : 240 ≤ b.toNat ∧ b.toNat < 248
      · simp only [if_pos h3]
        rw [zoh]; exact mif ..
      · simp only [if_neg h3]
theorem z76 (n m b1 b2 b3 : Nat) (h : ¬ m < 128) (hb : m < 256) (h1 : b1 < 256) (h2 : b2 < 256) (h3 : b3 < 256) :
    stepN n m b1 b2 b3 = checkN n b1 b2 b3 (firstT m % 8) (accLo (firstT m / 16)) (accHi (firstT m / 16)) := by
  have key : ∀ (f : Nat), firstT m = f → stepN n m b1 b2 b3 = checkN n b1 b2 b3 (f % 8) (accLo (f / 16)) (accHi (f / 16)) → 
      stepN n m b1 b2 b3 = checkN n b1 b2 b3 (firstT m % 8) (accLo (firstT m / 16)) (accHi (firstT m / 16)) := by
    rintro f rfl h; exact h
  by_cases c0 : m < 194
  · refine key 241 (by simp [firstT, h, c0]) ?_
    unfold stepN badR
    simp only [accLo, accHi, checkN, Nat.reduceMod, Nat.reduceDiv, Nat.reduceEqDiff, reduceIte]
    repeat' split
    all_goals first | (exfalso; omega) | rfl
  by_cases c1 : m < 224
  · refine key 2 (by simp [firstT, h, c0, c1]) ?_
    unfold stepN badR
    simp only [accLo, accHi, checkN, Nat.reduceMod, Nat.reduceDiv, Nat.reduceEqDiff, reduceIte]
    repeat' split
    all_goals first | (exfalso; omega) | rfl
  by_cases c2 : m = 224
  · subst c2
    refine key 19 (by decide) ?_
    unfold stepN badR
    simp only [accLo, accHi, checkN, Nat.reduceMod, Nat.reduceDiv, Nat.reduceEqDiff, reduceIte]
    repeat' split
    all_goals first | (exfalso; omega) | rfl
  by_cases c3 : m < 237
  · refine key 3 (by simp [firstT, h, c0, c1, c2, c3]) ?_
    unfold stepN badR
    simp only [accLo, accHi, checkN, Nat.reduceMod, Nat.reduceDiv, Nat.reduceEqDiff, reduceIte]
    repeat' split
    all_goals first | (exfalso; omega) | rfl
  by_cases c4 : m = 237
  · subst c4
    refine key 35 (by decide) ?_
    unfold stepN badR
    simp only [accLo, accHi, checkN, Nat.reduceMod, Nat.reduceDiv, Nat.reduceEqDiff, reduceIte]
    repeat' split
    all_goals first | (exfalso; omega) | rfl
  by_cases c5 : m < 240
  · refine key 3 (by simp [firstT, h, c0, c1, c2, c3, c4, c5]) ?_
    unfold stepN badR
    simp only [accLo, accHi, checkN, Nat.reduceMod, Nat.reduceDiv, Nat.reduceEqDiff, reduceIte]
    repeat' split
    all_goals first | (exfalso; omega) | rfl
  by_cases c6 : m = 240
  · subst c6
    refine key 52 (by decide) ?_
    unfold stepN badR
    simp only [accLo, accHi, checkN, Nat.reduceMod, Nat.reduceDiv, Nat.reduceEqDiff, reduceIte]
    repeat' split
    all_goals first | (exfalso; omega) | rfl
  by_cases c7 : m < 244
  · refine key 4 (by simp [firstT, h, c0, c1, c2, c3, c4, c5, c6, c7]) ?_
    unfold stepN badR
    simp only [accLo, accHi, checkN, Nat.reduceMod, Nat.reduceDiv, Nat.reduceEqDiff, reduceIte]
    repeat' split
    all_goals first | (exfalso; omega) | rfl
  by_cases c8 : m = 244
  · subst c8
    refine key 68 (by decide) ?_
    unfold stepN badR
    simp only [accLo, accHi, checkN, Nat.reduceMod, Nat.reduceDiv, Nat.reduceEqDiff, reduceIte]
    repeat' split
    all_goals first | (exfalso; omega) | rfl
  refine key 241 (by simp [firstT, h, c0, c1, c2, c3, c4, c5, c6, c7, c8]) ?_
  unfold stepN badR
  simp only [accLo, accHi, checkN, Nat.reduceMod, Nat.reduceDiv, Nat.reduceEqDiff, reduceIte]
  repeat' split
  all_goals first | (exfalso; omega) | rfl
theorem zh4 {l : List UInt8} {n : Nat} (h : stepR l = some n) : 1 ≤ n := by
  unfold stepR at h
  split at h
  · cases h
  · split at h
    · cases h
    · split at h
      · cases h
      · split at h
        · cases h
        · cases h; omega
theorem z2y : ∀ (k : Nat) (l : List UInt8), l.length ≤ k → utfR k l = validD l
  | 0, [], _ => rfl
  | 0, _ :: _, h => by simp at h
  | k + 1, [], _ => rfl
  | k + 1, b :: l, h => by
    rw [utfR]
    split
    · rename_i hb
      rw [validD_cons b l hb]
      exact z2y k l (by simpa using h)
    · rename_i hb
      rw [validD_lead (b :: l) (by simp) (by simpa using Nat.not_lt.1 hb), zh3, z76 _ _ _ _ _ hb b.toNat_lt (UInt8.toNat_lt _) (UInt8.toNat_lt _) (UInt8.toNat_lt _)]
      have he : stepR (b :: l) = _ := zh3 b l
      rw [z76 _ _ _ _ _ hb b.toNat_lt (UInt8.toNat_lt _) (UInt8.toNat_lt _) (UInt8.toNat_lt _)] at he
      simp only [List.getD_cons_zero]
      cases hc : checkN (b :: l).length ((b :: l).getD 1 0).toNat ((b :: l).getD 2 0).toNat ((b :: l).getD 3 0).toNat (firstT b.toNat % 8) (accLo (firstT b.toNat / 16)) (accHi (firstT b.toNat / 16)) with
      | none => rfl
      | some n =>
        rw [hc] at he
        have hp := zh4 he
        refine z2y k _ ?_
        rw [List.length_drop]
        simp at h ⊢
        omega
end Go.Hb
end

-- X3
section
namespace Go.Proofs.YtlllbkjiadcloaaDoor.hb
open Go Go.RowKit Go.Hb
theorem zdy (s : ByteArray) (i : Nat) (h : i < s.size) : s.data.toList.drop i = (s[i]'h) :: s.data.toList.drop (i + 1) := by
  have h' : i < s.data.toList.length := by simpa using h
  rw [List.drop_eq_getElem_cons h']
  rfl
theorem z77 (s : ByteArray) : s.data.toList.length = s.size := by simp
theorem zm7 {m n lo c : Nat} (h : leadR m = some (n, lo, c)) : 1 ≤ n ∧ n ≤ 3 ∧ c < 32 ∧ lo ≤ 65536 := by
  unfold leadR at h
  split at h
  · cases h; omega
  · split at h
    · cases h; omega
    · split at h
      · cases h; omega
      · cases h
variable {ok : Ok}
set_option maxRecDepth 10000
set_option maxHeartbeats 4000000 in
theorem zf1 (hk : ∀ args H, ok.K 105 args H = none) (hm : ok.testBit 105 = true) : TellsS ok 105 fun s => utfR s.size s.data.toList := by
  intro s H hs hw
  have hs' : s.size ≤ 9223372036854775807 := hs
  refine EvF.enter (hk _ _) Tryd.func105 hm rfl ?_
  (repeat refine EvC.seq ?_); refine EvC.reg ?_; simp (config := { maxSteps := 2000000 }) (disch := first | omega | rfl) only [sA, initTm]
  (repeat refine EvC.seq ?_); refine EvC.reg ?_; simp (config := { maxSteps := 2000000 }) (disch := first | omega | rfl) only [sA]
  (repeat refine EvC.seq ?_)
  refine EvC.block (EvC.loop (fun k st => ∃ tm i, st = ⟨tm, [], H⟩ ∧ k = s.size - i ∧ i ≤ s.size ∧ utfR (s.size - i) (s.data.toList.drop i) = utfR s.size s.data.toList ∧ tm.get 0 = some (.string s) ∧ tm.get 3 = some (.int .i64 (i : Nat))) ?_ s.size _ ?_)
  · rintro k st ⟨tm, i, rfl, hk', hi, hc, g0, g3⟩
    (repeat refine EvC.seq ?_); refine EvC.reg ?_; simp (config := { maxSteps := 2000000 }) (disch := first | omega | rfl) only [sB, Nat.reduceEqDiff, reduceCtorEq, g0, g3, z17 Tryd.underlying9]
    by_cases hlt : i < s.size
    · refine EvC.condT (by simp only [sB, Nat.reduceEqDiff]; exact congrArg _ (decide_eq_true (by omega))) (EvC.skip ?_)
      try simp (config := { maxSteps := 2000000 }) (disch := first | omega | rfl) only [z02]
      refine EvC.block ?_
      have hat := zdy s i hlt
      have hbt := (s[i]'hlt).toNat_lt
      obtain ⟨m, hm'⟩ : ∃ m, m = (s[i]'hlt).toNat := ⟨_, rfl⟩
      rw [← hm'] at hbt
      have hmB : byteAt s i = m := by rw [z5a s i hlt, hm']
      have hf : s.size - i = (s.size - (i + 1)) + 1 := by omega
      rw [hf, hat, utfR, ← hm'] at hc
      (repeat refine EvC.seq ?_); refine EvC.reg ?_; simp (config := { maxSteps := 2000000 }) (disch := first | omega | rfl) only [sB, Nat.reduceEqDiff, reduceCtorEq, g0, g3, z0y Tryd.underlying9 hlt, hmB]
      (repeat refine EvC.seq ?_); refine EvC.reg ?_; simp (config := { maxSteps := 2000000 }) (disch := first | omega | rfl) only [sA]
      (repeat refine EvC.seq ?_); refine EvC.reg ?_; simp (config := { maxSteps := 2000000 }) (disch := first | omega | rfl) only [sA]
      (repeat refine EvC.seq ?_); refine EvC.reg ?_; simp (config := { maxSteps := 2000000 }) (disch := first | omega | rfl) only [sA]
      (repeat refine EvC.seq ?_); refine EvC.reg ?_; simp (config := { maxSteps := 2000000 }) (disch := first | omega | rfl) only [sB, Nat.reduceEqDiff]
      refine EvC.frame (fun tm => tm.get 0 = some (.string s) ∧ tm.get 3 = some (.int .i64 (i : Nat)) ∧ tm.get 4 = some (.int .u8 (m : Nat)) ∧ tm.get 17 = some (.bool (decide ((m : Int) < 128)))) ⟨by simp only [sG, reduceCtorEq]; exact g0, by simp only [sG, Nat.reduceEqDiff]; exact g3, by simp only [sG, Nat.reduceEqDiff], by simp only [sG, Nat.reduceEqDiff]⟩ ?_
      clear g0 g3 tm
      rintro tm ⟨g0, g3, g4, g17⟩
      (repeat refine EvC.seq ?_)
      by_cases hasc : m < 128
      · refine EvC.condT (by simp only [sA, g17, decide_eq_true (show (m : Int) < 128 by omega)]) ?_
        (repeat refine EvC.seq ?_); refine EvC.reg ?_; simp (config := { maxSteps := 2000000 }) (disch := first | omega | rfl) only [sB, Nat.reduceEqDiff, g3, z06]
        refine EvC.exit ?_
        try simp (config := { maxSteps := 2000000 }) (disch := first | omega | rfl) only [sB, reduceCtorEq]
        refine ⟨s.size - (i + 1), by omega, _, i + 1, rfl, rfl, by omega, by rw [← hc, if_pos hasc], by simp only [sG, reduceCtorEq]; exact g0, by simp only [sG, Nat.reduceEqDiff]; rfl⟩
      rw [if_neg hasc] at hc
      refine EvC.condF (by simp only [sA, g17, decide_eq_false (show ¬ (m : Int) < 128 by omega)]) ?_
      refine EvC.join (fun st => ∃ n lo c tm, leadR m = some (n, lo, c) ∧ st = ⟨tm, [], H⟩ ∧ tm.get 0 = some (.string s) ∧ tm.get 3 = some (.int .i64 (i : Nat)) ∧ tm.get 5 = some (.int .i64 (n : Nat)) ∧ tm.get 6 = some (.int .i64 (lo : Nat)) ∧ tm.get 7 = some (.int .i64 (c : Nat))) ?_ ?_
      · have hcs : m < 192 ∨ (192 ≤ m ∧ m < 224) ∨ (224 ≤ m ∧ m < 240) ∨ (240 ≤ m ∧ m < 248) ∨ 248 ≤ m := by omega
        rcases hcs with h | ⟨h, h'⟩ | ⟨h, h'⟩ | ⟨h, h'⟩ | h
        · have q1 : decide ((m : Int) ≥ 192) = false := decide_eq_false (by omega)
          have q3 : decide ((m : Int) ≥ 224) = false := decide_eq_false (by omega)
          have q5 : decide ((m : Int) ≥ 240) = false := decide_eq_false (by omega)
          have hl : leadR m = none := by unfold leadR; rw [if_neg (by omega), if_neg (by omega), if_neg (by omega)]
          (repeat refine EvC.seq ?_); refine EvC.reg ?_; simp (config := { maxSteps := 2000000 }) (disch := first | omega | rfl) only [sB, Nat.reduceEqDiff, g4, q1, Bool.false_eq_true]
          (repeat refine EvC.seq ?_); refine EvC.condF (by simp only [sB, Nat.reduceEqDiff]) ?_
          (repeat refine EvC.seq ?_); refine EvC.reg ?_; simp (config := { maxSteps := 2000000 }) (disch := first | omega | rfl) only [sB, Nat.reduceEqDiff, g4, q3, Bool.false_eq_true]
          (repeat refine EvC.seq ?_); refine EvC.condF (by simp only [sB, Nat.reduceEqDiff]) ?_
          (repeat refine EvC.seq ?_); refine EvC.reg ?_; simp (config := { maxSteps := 2000000 }) (disch := first | omega | rfl) only [sB, Nat.reduceEqDiff, g4, q5, Bool.false_eq_true]
          (repeat refine EvC.seq ?_); refine EvC.condF (by simp only [sB, Nat.reduceEqDiff]) ?_
          (repeat refine EvC.seq ?_); refine EvC.reg ?_; simp (config := { maxSteps := 2000000 }) (disch := first | omega | rfl) only [sA]
          refine EvC.ret ?_
          try simp (config := { maxSteps := 2000000 }) (disch := first | omega | rfl) only [sA]
          exact z04 rfl (by simp only [sG, Nat.reduceEqDiff]; rfl) ⟨by rw [← hc]; simp only [stepR, ← hm', hl], HX.refl hw⟩
        · have q1 : decide ((m : Int) ≥ 192) = true := decide_eq_true (by omega)
          have q2 : decide ((m : Int) < 224) = true := decide_eq_true (by omega)
          have hl : leadR m = some (1, 128, m - 192) := by unfold leadR; rw [if_pos (by omega)]
          (repeat refine EvC.seq ?_); refine EvC.reg ?_; simp (config := { maxSteps := 2000000 }) (disch := first | omega | rfl) only [sB, Nat.reduceEqDiff, g4, q1, q2]
          (repeat refine EvC.seq ?_); refine EvC.condT (by simp only [sB, Nat.reduceEqDiff]) ?_
          (repeat refine EvC.seq ?_); refine EvC.reg ?_; simp (config := { maxSteps := 2000000 }) (disch := first | omega | rfl) only [sA]
          (repeat refine EvC.seq ?_); refine EvC.reg ?_; simp (config := { maxSteps := 2000000 }) (disch := first | omega | rfl) only [sA]
          (repeat refine EvC.seq ?_); refine EvC.reg ?_; simp (config := { maxSteps := 2000000 }) (disch := first | omega | rfl) only [sB, Nat.reduceEqDiff, g4, z1i Tryd.underlying5 Tryd.underlying3, z06]
          exact ⟨1, 128, m - 192, _, hl, rfl, by simp only [sG, reduceCtorEq]; exact g0, by simp only [sG, Nat.reduceEqDiff]; exact g3, by simp only [sG, Nat.reduceEqDiff]; rfl, by simp only [sG, Nat.reduceEqDiff]; rfl, by simp only [sG, Nat.reduceEqDiff]; exact congrArg (fun z => some (Value.int .i64 z)) (by omega)⟩
        · have q1 : decide ((m : Int) ≥ 192) = true := decide_eq_true (by omega)
          have q2 : decide ((m : Int) < 224) = false := decide_eq_false (by omega)
          have q3 : decide ((m : Int) ≥ 224) = true := decide_eq_true (by omega)
          have q4 : decide ((m : Int) < 240) = true := decide_eq_true (by omega)
          have hl : leadR m = some (2, 2048, m - 224) := by unfold leadR; rw [if_neg (by omega), if_pos (by omega)]
          (repeat refine EvC.seq ?_); refine EvC.reg ?_; simp (config := { maxSteps := 2000000 }) (disch := first | omega | rfl) only [sB, Nat.reduceEqDiff, g4, q1, q2]
          (repeat refine EvC.seq ?_); refine EvC.condF (by simp only [sB, Nat.reduceEqDiff]) ?_
          (repeat refine EvC.seq ?_); refine EvC.reg ?_; simp (config := { maxSteps := 2000000 }) (disch := first | omega | rfl) only [sB, Nat.reduceEqDiff, g4, q3, q4]
          (repeat refine EvC.seq ?_); refine EvC.condT (by simp only [sB, Nat.reduceEqDiff]) ?_
          (repeat refine EvC.seq ?_); refine EvC.reg ?_; simp (config := { maxSteps := 2000000 }) (disch := first | omega | rfl) only [sA]
          (repeat refine EvC.seq ?_); refine EvC.reg ?_; simp (config := { maxSteps := 2000000 }) (disch := first | omega | rfl) only [sA]
          (repeat refine EvC.seq ?_); refine EvC.reg ?_; simp (config := { maxSteps := 2000000 }) (disch := first | omega | rfl) only [sB, Nat.reduceEqDiff, g4, z1i Tryd.underlying5 Tryd.underlying3, z06]
          exact ⟨2, 2048, m - 224, _, hl, rfl, by simp only [sG, reduceCtorEq]; exact g0, by simp only [sG, Nat.reduceEqDiff]; exact g3, by simp only [sG, Nat.reduceEqDiff]; rfl, by simp only [sG, Nat.reduceEqDiff]; rfl, by simp only [sG, Nat.reduceEqDiff]; exact congrArg (fun z => some (Value.int .i64 z)) (by omega)⟩
        · have q1 : decide ((m : Int) ≥ 192) = true := decide_eq_true (by omega)
          have q2 : decide ((m : Int) < 224) = false := decide_eq_false (by omega)
          have q3 : decide ((m : Int) ≥ 224) = true := decide_eq_true (by omega)
          have q4 : decide ((m : Int) < 240) = false := decide_eq_false (by omega)
          have q5 : decide ((m : Int) ≥ 240) = true := decide_eq_true (by omega)
          have q6 : decide ((m : Int) < 248) = true := decide_eq_true (by omega)
          have hl : leadR m = some (3, 65536, m - 240) := by unfold leadR; rw [if_neg (by omega), if_neg (by omega), if_pos (by omega)]
          (repeat refine EvC.seq ?_); refine EvC.reg ?_; simp (config := { maxSteps := 2000000 }) (disch := first | omega | rfl) only [sB, Nat.reduceEqDiff, g4, q1, q2]
          (repeat refine EvC.seq ?_); refine EvC.condF (by simp only [sB, Nat.reduceEqDiff]) ?_
          (repeat refine EvC.seq ?_); refine EvC.reg ?_; simp (config := { maxSteps := 2000000 }) (disch := first | omega | rfl) only [sB, Nat.reduceEqDiff, g4, q3, q4]
          (repeat refine EvC.seq ?_); refine EvC.condF (by simp only [sB, Nat.reduceEqDiff]) ?_
          (repeat refine EvC.seq ?_); refine EvC.reg ?_; simp (config := { maxSteps := 2000000 }) (disch := first | omega | rfl) only [sB, Nat.reduceEqDiff, g4, q5, q6]
          (repeat refine EvC.seq ?_); refine EvC.condT (by simp only [sB, Nat.reduceEqDiff]) ?_
          (repeat refine EvC.seq ?_); refine EvC.reg ?_; simp (config := { maxSteps := 2000000 }) (disch := first | omega | rfl) only [sA]
          (repeat refine EvC.seq ?_); refine EvC.reg ?_; simp (config := { maxSteps := 2000000 }) (disch := first | omega | rfl) only [sA]
          (repeat refine EvC.seq ?_); refine EvC.reg ?_; simp (config := { maxSteps := 2000000 }) (disch := first | omega | rfl) only [sB, Nat.reduceEqDiff, g4, z1i Tryd.underlying5 Tryd.underlying3, z06]
          exact ⟨3, 65536, m - 240, _, hl, rfl, by simp only [sG, reduceCtorEq]; exact g0, by simp only [sG, Nat.reduceEqDiff]; exact g3, by simp only [sG, Nat.reduceEqDiff]; rfl, by simp only [sG, Nat.reduceEqDiff]; rfl, by simp only [sG, Nat.reduceEqDiff]; exact congrArg (fun z => some (Value.int .i64 z)) (by omega)⟩
        · have q1 : decide ((m : Int) ≥ 192) = true := decide_eq_true (by omega)
          have q2 : decide ((m : Int) < 224) = false := decide_eq_false (by omega)
          have q3 : decide ((m : Int) ≥ 224) = true := decide_eq_true (by omega)
          have q4 : decide ((m : Int) < 240) = false := decide_eq_false (by omega)
          have q5 : decide ((m : Int) ≥ 240) = true := decide_eq_true (by omega)
          have q6 : decide ((m : Int) < 248) = false := decide_eq_false (by omega)
          have hl : leadR m = none := by unfold leadR; rw [if_neg (by omega), if_neg (by omega), if_neg (by omega)]
          (repeat refine EvC.seq ?_); refine EvC.reg ?_; simp (config := { maxSteps := 2000000 }) (disch := first | omega | rfl) only [sB, Nat.reduceEqDiff, g4, q1, q2]
          (repeat refine EvC.seq ?_); refine EvC.condF (by simp only [sB, Nat.reduceEqDiff]) ?_
          (repeat refine EvC.seq ?_); refine EvC.reg ?_; simp (config := { maxSteps := 2000000 }) (disch := first | omega | rfl) only [sB, Nat.reduceEqDiff, g4, q3, q4]
          (repeat refine EvC.seq ?_); refine EvC.condF (by simp only [sB, Nat.reduceEqDiff]) ?_
          (repeat refine EvC.seq ?_); refine EvC.reg ?_; simp (config := { maxSteps := 2000000 }) (disch := first | omega | rfl) only [sB, Nat.reduceEqDiff, g4, q5, q6]
          (repeat refine EvC.seq ?_); refine EvC.condF (by simp only [sB, Nat.reduceEqDiff]) ?_
          (repeat refine EvC.seq ?_); refine EvC.reg ?_; simp (config := { maxSteps := 2000000 }) (disch := first | omega | rfl) only [sA]
          refine EvC.ret ?_
          try simp (config := { maxSteps := 2000000 }) (disch := first | omega | rfl) only [sA]
          exact z04 rfl (by simp only [sG, Nat.reduceEqDiff]; rfl) ⟨by rw [← hc]; simp only [stepR, ← hm', hl], HX.refl hw⟩
      rintro st ⟨n, lo, c, tm1, hlead, rfl, f0, f3, f5, f6, f7⟩
      clear g0 g3 g4 g17 tm
      try simp (config := { maxSteps := 2000000 }) (disch := first | omega | rfl) only [z02]
      have hle := zm7 hlead
      (repeat refine EvC.seq ?_); refine EvC.reg ?_; simp (config := { maxSteps := 2000000 }) (disch := first | omega | rfl) only [sA]
      (repeat refine EvC.seq ?_)
      refine EvC.join (fun st => ∃ c' tm, contR n (s.data.toList.drop (i + 1)) c = some c' ∧ c' < 8388608 ∧ i + 1 + n ≤ s.size ∧ st = ⟨tm, [], H⟩ ∧ tm.get 0 = some (.string s) ∧ tm.get 3 = some (.int .i64 (i : Nat)) ∧ tm.get 5 = some (.int .i64 (n : Nat)) ∧ tm.get 6 = some (.int .i64 (lo : Nat)) ∧ tm.get 7 = some (.int .i64 (c' : Nat))) ?_ ?_
      · refine EvC.block (EvC.loop (fun k st => ∃ tm j c', st = ⟨tm, [], H⟩ ∧ k = n - j ∧ j ≤ n ∧ ((j = 0 ∧ c' < 32) ∨ (j = 1 ∧ c' < 2048) ∨ (j = 2 ∧ c' < 131072) ∨ (j = 3 ∧ c' < 8388608)) ∧ i + 1 + j ≤ s.size ∧ contR (n - j) (s.data.toList.drop (i + 1 + j)) c' = contR n (s.data.toList.drop (i + 1)) c ∧ tm.get 0 = some (.string s) ∧ tm.get 3 = some (.int .i64 (i : Nat)) ∧ tm.get 5 = some (.int .i64 (n : Nat)) ∧ tm.get 6 = some (.int .i64 (lo : Nat)) ∧ tm.get 7 = some (.int .i64 (c' : Nat)) ∧ tm.get 8 = some (.int .i64 ((j + 1 : Nat) : Int))) ?_ n _ ?_)
        · rintro k st ⟨tm, j, c', rfl, hkj, hj, hcl, hij, hcc, e0, e3, e5, e6, e7, e8⟩
          have hcb : c' < 8388608 := by omega
          (repeat refine EvC.seq ?_); refine EvC.reg ?_; simp (config := { maxSteps := 2000000 }) (disch := first | omega | rfl) only [sB, Nat.reduceEqDiff, e5, e8]
          (repeat refine EvC.seq ?_)
          by_cases hjn : j + 1 ≤ n
          · refine EvC.condT (by simp only [sB, Nat.reduceEqDiff]; exact congrArg _ (decide_eq_true (by omega))) (EvC.skip ?_)
            try simp (config := { maxSteps := 2000000 }) (disch := first | omega | rfl) only [z02]
            refine EvC.seq ?_
            have hw1 : IntKind.i64.wrap ((i : Int) + ((j + 1 : Nat) : Int)) = ((i + 1 + j : Nat) : Int) := by rw [z06 (by omega) (by omega)]; omega
            have hnj : n - j = (n - (j + 1)) + 1 := by omega
            by_cases hend : i + 1 + j < s.size
            · have hat2 := zdy s (i + 1 + j) hend
              have hbt2 := (s[i + 1 + j]'hend).toNat_lt
              obtain ⟨b, hb'⟩ : ∃ b, b = (s[i + 1 + j]'hend).toNat := ⟨_, rfl⟩
              rw [← hb'] at hbt2
              have hbB : byteAt s (i + 1 + j) = b := by rw [z5a s _ hend, hb']
              rw [hnj, hat2, contR, ← hb'] at hcc
              have q1 : decide (((i + 1 + j : Nat) : Int) ≥ (s.size : Int)) = false := decide_eq_false (by omega)
              refine EvC.block ?_
              by_cases hbad : b < 128 ∨ 192 ≤ b
              · rw [if_pos hbad] at hcc
                have hst : stepR (s[i] :: s.data.toList.drop (i + 1)) = none := by simp only [stepR, ← hm', hlead, ← hcc]
                have fin : utfR s.size s.data.toList = false := by rw [← hc, hst]
                by_cases h2 : b < 128
                · have q2 : decide ((b : Int) < 128) = true := decide_eq_true (by omega)
                  (repeat refine EvC.seq ?_); refine EvC.reg ?_; simp (config := { maxSteps := 2000000 }) (disch := first | omega | rfl) only [sB, Nat.reduceEqDiff, reduceCtorEq, e0, e3, e8, hw1, q1, q2, z17 Tryd.underlying9, z0y Tryd.underlying9 hend, hbB, Bool.false_eq_true]
                  (repeat refine EvC.seq ?_); refine EvC.condT (by simp only [sB, Nat.reduceEqDiff]) ?_
                  (repeat refine EvC.seq ?_); refine EvC.reg ?_; simp (config := { maxSteps := 2000000 }) (disch := first | omega | rfl) only [sA]
                  refine EvC.ret ?_
                  try simp (config := { maxSteps := 2000000 }) (disch := first | omega | rfl) only [sA]
                  exact z04 rfl (by simp only [sG, Nat.reduceEqDiff]; rfl) ⟨by rw [fin], HX.refl hw⟩
                · have q2 : decide ((b : Int) < 128) = false := decide_eq_false (by omega)
                  have q3 : decide ((b : Int) ≥ 192) = true := decide_eq_true (by omega)
                  (repeat refine EvC.seq ?_); refine EvC.reg ?_; simp (config := { maxSteps := 2000000 }) (disch := first | omega | rfl) only [sB, Nat.reduceEqDiff, reduceCtorEq, e0, e3, e8, hw1, q1, q2, q3, z17 Tryd.underlying9, z0y Tryd.underlying9 hend, hbB, Bool.false_eq_true]
                  (repeat refine EvC.seq ?_); refine EvC.condT (by simp only [sB, Nat.reduceEqDiff]) ?_
                  (repeat refine EvC.seq ?_); refine EvC.reg ?_; simp (config := { maxSteps := 2000000 }) (disch := first | omega | rfl) only [sA]
                  refine EvC.ret ?_
                  try simp (config := { maxSteps := 2000000 }) (disch := first | omega | rfl) only [sA]
                  exact z04 rfl (by simp only [sG, Nat.reduceEqDiff]; rfl) ⟨by rw [fin], HX.refl hw⟩
              · rw [if_neg hbad] at hcc
                have q2 : decide ((b : Int) < 128) = false := decide_eq_false (by omega)
                have q3 : decide ((b : Int) ≥ 192) = false := decide_eq_false (by omega)
                (repeat refine EvC.seq ?_); refine EvC.reg ?_; simp (config := { maxSteps := 2000000 }) (disch := first | omega | rfl) only [sB, Nat.reduceEqDiff, reduceCtorEq, e0, e3, e8, hw1, q1, q2, q3, z17 Tryd.underlying9, z0y Tryd.underlying9 hend, hbB, Bool.false_eq_true]
                (repeat refine EvC.seq ?_); refine EvC.condF (by simp only [sB, Nat.reduceEqDiff]) (EvC.skip ?_)
                try simp (config := { maxSteps := 2000000 }) (disch := first | omega | rfl) only [z02]
                (repeat refine EvC.seq ?_); refine EvC.reg ?_; simp (config := { maxSteps := 2000000 }) (disch := first | omega | rfl) only [sB, Nat.reduceEqDiff, reduceCtorEq, e0, e3, e7, e8, hw1, z0y Tryd.underlying9 hend, hbB, z1i Tryd.underlying5 Tryd.underlying3, z06]
                (repeat refine EvC.seq ?_); refine EvC.reg ?_; simp (config := { maxSteps := 2000000 }) (disch := first | omega | rfl) only [sB, Nat.reduceEqDiff, e8, z06]
                exact ⟨n - (j + 1), by omega, _, j + 1, c' * 64 + b - 128, rfl, rfl, hjn, by omega, by omega, hcc, by simp only [sG, reduceCtorEq]; exact e0, by simp only [sG, Nat.reduceEqDiff]; exact e3, by simp only [sG, Nat.reduceEqDiff]; exact e5, by simp only [sG, Nat.reduceEqDiff]; exact e6, by simp only [sG, Nat.reduceEqDiff]; exact congrArg (fun z => some (Value.int .i64 z)) (by omega), by simp only [sG, Nat.reduceEqDiff]; rfl⟩
            · have q1 : decide (((i + 1 + j : Nat) : Int) ≥ (s.size : Int)) = true := decide_eq_true (by omega)
              have hnil : s.data.toList.drop (i + 1 + j) = [] := List.drop_of_length_le (by rw [z77]; omega)
              rw [hnj, hnil, contR] at hcc
              have hst : stepR (s[i] :: s.data.toList.drop (i + 1)) = none := by simp only [stepR, ← hm', hlead, ← hcc]
              have fin : utfR s.size s.data.toList = false := by rw [← hc, hst]
              refine EvC.block ?_
              (repeat refine EvC.seq ?_); refine EvC.reg ?_; simp (config := { maxSteps := 2000000 }) (disch := first | omega | rfl) only [sB, Nat.reduceEqDiff, reduceCtorEq, e0, e3, e8, hw1, q1, z17 Tryd.underlying9]
              (repeat refine EvC.seq ?_); refine EvC.condT (by simp only [sB, Nat.reduceEqDiff]) ?_
              (repeat refine EvC.seq ?_); refine EvC.reg ?_; simp (config := { maxSteps := 2000000 }) (disch := first | omega | rfl) only [sA]
              refine EvC.ret ?_
              try simp (config := { maxSteps := 2000000 }) (disch := first | omega | rfl) only [sA]
              exact z04 rfl (by simp only [sG, Nat.reduceEqDiff]; rfl) ⟨by rw [fin], HX.refl hw⟩
          · refine EvC.condF (by simp only [sB, Nat.reduceEqDiff]; exact congrArg _ (decide_eq_false (by omega))) (EvC.exit ?_)
            try simp (config := { maxSteps := 2000000 }) (disch := first | omega | rfl) only [sB, Nat.reduceEqDiff, reduceCtorEq]
            have hjn' : n - j = 0 := by omega
            have hjn2 : j = n := by omega
            rw [hjn', contR] at hcc
            exact ⟨c', _, hcc.symm, hcb, by omega, rfl, by simp only [sG, reduceCtorEq]; exact e0, by simp only [sG, Nat.reduceEqDiff]; exact e3, by simp only [sG, Nat.reduceEqDiff]; exact e5, by simp only [sG, Nat.reduceEqDiff]; exact e6, by simp only [sG, Nat.reduceEqDiff]; exact e7⟩
        · exact ⟨_, 0, c, rfl, by omega, by omega, by omega, by omega, by simp only [Nat.sub_zero, Nat.add_zero], by simp only [sG, reduceCtorEq]; exact f0, by simp only [sG, Nat.reduceEqDiff]; exact f3, by simp only [sG, Nat.reduceEqDiff]; exact f5, by simp only [sG, Nat.reduceEqDiff]; exact f6, by simp only [sG, Nat.reduceEqDiff]; exact f7, by simp only [sB]; rfl⟩
      rintro st ⟨c', tm, hcont, hcb, hin, rfl, e0, e3, e5, e6, e7⟩
      clear f0 f3 f5 f6 f7
      try simp (config := { maxSteps := 2000000 }) (disch := first | omega | rfl) only [z02]
      by_cases hbad : badR lo c'
      · have hst : stepR (s[i] :: s.data.toList.drop (i + 1)) = none := by simp only [stepR, ← hm', hlead, hcont, if_pos hbad]
        have fin : utfR s.size s.data.toList = false := by rw [← hc, hst]
        rcases hbad with h1 | h1
        · have q1 : decide ((c' : Int) < (lo : Int)) = true := decide_eq_true (by omega)
          (repeat refine EvC.seq ?_); refine EvC.reg ?_; simp (config := { maxSteps := 2000000 }) (disch := first | omega | rfl) only [sB, Nat.reduceEqDiff, e6, e7, q1]
          (repeat refine EvC.seq ?_); refine EvC.condT (by simp only [sB, Nat.reduceEqDiff]) ?_
          (repeat refine EvC.seq ?_); refine EvC.reg ?_; simp (config := { maxSteps := 2000000 }) (disch := first | omega | rfl) only [sA]
          refine EvC.ret ?_
          try simp (config := { maxSteps := 2000000 }) (disch := first | omega | rfl) only [sA]
          exact z04 rfl (by simp only [sG, Nat.reduceEqDiff]; rfl) ⟨by rw [fin], HX.refl hw⟩
        · by_cases h0 : c' < lo
          · have q1 : decide ((c' : Int) < (lo : Int)) = true := decide_eq_true (by omega)
            (repeat refine EvC.seq ?_); refine EvC.reg ?_; simp (config := { maxSteps := 2000000 }) (disch := first | omega | rfl) only [sB, Nat.reduceEqDiff, e6, e7, q1]
            (repeat refine EvC.seq ?_); refine EvC.condT (by simp only [sB, Nat.reduceEqDiff]) ?_
            (repeat refine EvC.seq ?_); refine EvC.reg ?_; simp (config := { maxSteps := 2000000 }) (disch := first | omega | rfl) only [sA]
            refine EvC.ret ?_
            try simp (config := { maxSteps := 2000000 }) (disch := first | omega | rfl) only [sA]
            exact z04 rfl (by simp only [sG, Nat.reduceEqDiff]; rfl) ⟨by rw [fin], HX.refl hw⟩
          have q1 : decide ((c' : Int) < (lo : Int)) = false := decide_eq_false (by omega)
          by_cases h2 : 1114111 < c'
          · have q2 : decide ((c' : Int) > 1114111) = true := decide_eq_true (by omega)
            (repeat refine EvC.seq ?_); refine EvC.reg ?_; simp (config := { maxSteps := 2000000 }) (disch := first | omega | rfl) only [sB, Nat.reduceEqDiff, e6, e7, q1, q2, Bool.false_eq_true]
            (repeat refine EvC.seq ?_); refine EvC.condT (by simp only [sB, Nat.reduceEqDiff]) ?_
            (repeat refine EvC.seq ?_); refine EvC.reg ?_; simp (config := { maxSteps := 2000000 }) (disch := first | omega | rfl) only [sA]
            refine EvC.ret ?_
            try simp (config := { maxSteps := 2000000 }) (disch := first | omega | rfl) only [sA]
            exact z04 rfl (by simp only [sG, Nat.reduceEqDiff]; rfl) ⟨by rw [fin], HX.refl hw⟩
          · have q2 : decide ((c' : Int) > 1114111) = false := decide_eq_false (by omega)
            have q3 : decide ((c' : Int) ≥ 55296) = true := decide_eq_true (by omega)
            have q4 : decide ((c' : Int) < 57344) = true := decide_eq_true (by omega)
            (repeat refine EvC.seq ?_); refine EvC.reg ?_; simp (config := { maxSteps := 2000000 }) (disch := first | omega | rfl) only [sB, Nat.reduceEqDiff, e6, e7, q1, q2, q3, q4, Bool.false_eq_true]
            (repeat refine EvC.seq ?_); refine EvC.condT (by simp only [sB, Nat.reduceEqDiff]) ?_
            (repeat refine EvC.seq ?_); refine EvC.reg ?_; simp (config := { maxSteps := 2000000 }) (disch := first | omega | rfl) only [sA]
            refine EvC.ret ?_
            try simp (config := { maxSteps := 2000000 }) (disch := first | omega | rfl) only [sA]
            exact z04 rfl (by simp only [sG, Nat.reduceEqDiff]; rfl) ⟨by rw [fin], HX.refl hw⟩
      · have hst : stepR (s[i] :: s.data.toList.drop (i + 1)) = some (n + 1) := by simp only [stepR, ← hm', hlead, hcont, if_neg hbad]
        have q1 : decide ((c' : Int) < (lo : Int)) = false := decide_eq_false (by omega)
        have q2 : decide ((c' : Int) > 1114111) = false := decide_eq_false (by omega)
        have nxt : utfR (s.size - (i + 1 + n)) (s.data.toList.drop (i + 1 + n)) = utfR s.size s.data.toList := by
          rw [← hc, hst]
          simp only [List.drop_succ_cons, List.drop_drop]
          rw [z2y _ _ (by rw [List.length_drop, z77]; omega), z2y _ _ (by rw [List.length_drop, z77]; omega)]
        by_cases h3 : 55296 ≤ c'
        · have q3 : decide ((c' : Int) ≥ 55296) = true := decide_eq_true (by omega)
          have q4 : decide ((c' : Int) < 57344) = false := decide_eq_false (by omega)
          (repeat refine EvC.seq ?_); refine EvC.reg ?_; simp (config := { maxSteps := 2000000 }) (disch := first | omega | rfl) only [sB, Nat.reduceEqDiff, e6, e7, q1, q2, q3, q4, Bool.false_eq_true]
          (repeat refine EvC.seq ?_); refine EvC.condF (by simp only [sB, Nat.reduceEqDiff]) (EvC.skip ?_)
          try simp (config := { maxSteps := 2000000 }) (disch := first | omega | rfl) only [z02]
          (repeat refine EvC.seq ?_); refine EvC.reg ?_; simp (config := { maxSteps := 2000000 }) (disch := first | omega | rfl) only [sB, Nat.reduceEqDiff, e3, e5, z06]
          exact ⟨s.size - (i + 1 + n), by omega, _, i + 1 + n, rfl, rfl, by omega, nxt, by simp only [sG, reduceCtorEq]; exact e0, by simp only [sG, Nat.reduceEqDiff]; exact congrArg (fun z => some (Value.int .i64 z)) (by omega)⟩
        · have q3 : decide ((c' : Int) ≥ 55296) = false := decide_eq_false (by omega)
          (repeat refine EvC.seq ?_); refine EvC.reg ?_; simp (config := { maxSteps := 2000000 }) (disch := first | omega | rfl) only [sB, Nat.reduceEqDiff, e6, e7, q1, q2, q3, Bool.false_eq_true]
          (repeat refine EvC.seq ?_); refine EvC.condF (by simp only [sB, Nat.reduceEqDiff]) (EvC.skip ?_)
          try simp (config := { maxSteps := 2000000 }) (disch := first | omega | rfl) only [z02]
          (repeat refine EvC.seq ?_); refine EvC.reg ?_; simp (config := { maxSteps := 2000000 }) (disch := first | omega | rfl) only [sB, Nat.reduceEqDiff, e3, e5, z06]
          exact ⟨s.size - (i + 1 + n), by omega, _, i + 1 + n, rfl, rfl, by omega, nxt, by simp only [sG, reduceCtorEq]; exact e0, by simp only [sG, Nat.reduceEqDiff]; exact congrArg (fun z => some (Value.int .i64 z)) (by omega)⟩
    · refine EvC.condF (by simp only [sB, Nat.reduceEqDiff]; exact congrArg _ (decide_eq_false (by omega))) (EvC.exit ?_)
      try simp (config := { maxSteps := 2000000 }) (disch := first | omega | rfl) only [sB]
      (repeat refine EvC.seq ?_); refine EvC.reg ?_; simp (config := { maxSteps := 2000000 }) (disch := first | omega | rfl) only [sA]
      refine EvC.ret (z04 rfl (by simp only [sG, Nat.reduceEqDiff]; rfl) ⟨?_, HX.refl hw⟩)
      rw [← hc, show s.size - i = 0 by omega, utfR]
  · exact ⟨_, 0, rfl, by omega, by omega, rfl, by simp only [sG, reduceCtorEq], by simp only [sG, Nat.reduceEqDiff, reduceCtorEq]; rfl⟩
end Go.Proofs.YtlllbkjiadcloaaDoor.hb
end

-- Y9
section
namespace Go.Proofs.YtlllbkjiadcloaaDoor.hb
open Go Go.RowKit Go.Hb
variable {ok : Ok}
set_option maxRecDepth 10000
attribute [local irreducible] LX LG EL STG SOP SGO SGD SAL SRD SEF SEG SLK SCK ES
def canonS (s : ByteArray) : Bool := match parseD (bl s) with | none => false | some n => textD (negS (bl s)) n == bl s
theorem zay {l : List Nat} {n : Nat} (h : parseD l = some n) : n < big := by
  unfold parseD at h
  split at h
  · cases h
  · split at h
    · cases h
    · exact zgt _ 0 n (by rw [z5o]; exact Nat.two_pow_pos _) h
theorem toNat_inj : ∀ {a b : List UInt8}, a.map UInt8.toNat = b.map UInt8.toNat → a = b
  | [], [], _ => rfl
  | x :: a, y :: b, h => by
    simp only [List.map_cons, List.cons.injEq] at h
    rw [UInt8.toNat_inj.1 h.1, toNat_inj h.2]
  | [], _ :: _, h => by simp at h
  | _ :: _, [], h => by simp at h
theorem zdz (t s : ByteArray) : (t.data.toList == s.data.toList) = (bl t == bl s) := by
  by_cases h : t.data.toList = s.data.toList
  · rw [beq_iff_eq.2 h, beq_iff_eq.2 (show bl t = bl s by unfold bl; rw [h])]
  · have h2 : bl t ≠ bl s := fun h3 => h (toNat_inj h3)
    rw [beq_eq_false_iff_ne.2 h, beq_eq_false_iff_ne.2 h2]
theorem zf2 : TellsS okT 102 canonS := by
  intro s H hs hw
  refine EvF.enter rfl Tryd.func102 (by decide) rfl ?_
  repeat' (first | refine EvC.seq ?_ | refine EvC.scope ?_ | refine EvC.block ?_ | (refine EvC.skip ?_) | (refine EvC.exit ?_) | (refine EvC.ret ?_; try simp only [z01, z00]) | (refine EvC.reg ?_; simp (config := { maxSteps := 2000000 }) (disch := first | omega | rfl) only [sB, initTm, Nat.reduceEqDiff, reduceCtorEq, znx]))
  refine (zj1 hs hw).mono ?_
  rintro v H1 ⟨hP, hx1⟩
  rcases hP with ⟨hnone, e, he, rfl⟩ | ⟨n, L, a, c, hsome, rfl, hr, hLb, hval, hlast, hlen⟩
  · have hx2 := (hx1.new (some (.row [.bool false, .slice none 0 0] 142))).put (i := H1.next) hx1.next (Nat.lt_succ_self _) (some (.row [.bool false, .slice none 0 0] 142))
    repeat' (first | refine EvC.seq ?_ | refine EvC.scope ?_ | refine EvC.block ?_ | (refine EvC.skip ?_) | (refine EvC.exit ?_) | (refine EvC.ret ?_; try simp only [z01, z00]) | (refine EvC.reg ?_; simp (config := { maxSteps := 2000000 }) (disch := first | omega | rfl) only [sB, Nat.reduceEqDiff, reduceCtorEq, z2x]) | (refine z0z ?_; simp (config := { maxSteps := 2000000 }) (disch := first | omega | rfl) only [sB, dAlloc, Nat.reduceEqDiff, Nat.reduceAdd, one, reduceCtorEq, zgj, z7l]) | (refine EvC.condT ?_ ?_; simp (config := { maxSteps := 2000000 }) (disch := first | omega | rfl) only [sB, Nat.reduceEqDiff, reduceCtorEq]; refine z03 ?_))
    exact z04 rfl (by simp only [sB, Nat.reduceEqDiff, reduceCtorEq] <;> rfl) ⟨by unfold canonS; rw [hnone], hx2⟩
  · have hn : n < big := zay hsome
    have hx2 := ((HX.refl hx1.wf).new (some (.row [.bool false, .slice none 0 0] 142))).put (i := H1.next) (Nat.le_refl _) (Nat.lt_succ_self _) (some (.row [.bool (negS (bl s) && decide (0 < L.length)), .slice a L.length c] 142))
    repeat' (first | refine EvC.seq ?_ | refine EvC.scope ?_ | refine EvC.block ?_ | (refine EvC.skip ?_; try simp only [z02]) | (refine EvC.exit ?_) | (refine EvC.ret ?_; try simp only [z01, z00]) | (refine EvC.reg ?_; simp (config := { maxSteps := 2000000 }) (disch := first | omega | rfl) only [sB, Nat.reduceEqDiff, Nat.reduceAdd, reduceCtorEq, cutC, z7m, zny, z10]) | (refine z0z ?_; simp (config := { maxSteps := 2000000 }) (disch := first | omega | rfl) only [sB, dAlloc, Nat.reduceEqDiff, Nat.reduceAdd, one, reduceCtorEq, zgj, z7l]) | (refine EvC.condT ?_ ?_; simp (config := { maxSteps := 2000000 }) (disch := first | omega | rfl) only [sB, Nat.reduceEqDiff, reduceCtorEq]; refine z03 ?_) | (refine EvC.condF ?_ ?_; simp (config := { maxSteps := 2000000 }) (disch := first | omega | rfl) only [sB, Nat.reduceEqDiff, reduceCtorEq]; refine z03 ?_))
    refine (zlt hx2.wf (hr.keep hx2 hx1.wf) hLb hlen hval hn).mono ?_
    rintro v H2 ⟨⟨t, rfl, ht⟩, hx3⟩
    have htx : textD (negS (bl s) && decide (0 < L.length)) n = textD (negS (bl s)) n := by
      by_cases h0 : 0 < L.length
      · simp [h0]
      · have : L = [] := List.length_eq_zero_iff.1 (by omega)
        subst this
        have : n = 0 := by rw [← hval]; rfl
        subst this; rfl
    rw [htx] at ht
    have heq : (t.data.toList == s.data.toList) = canonS s := by
      rw [zdz, ht]
      unfold canonS; rw [hsome]
    repeat' (first | refine EvC.seq ?_ | refine EvC.scope ?_ | refine EvC.block ?_ | (refine EvC.skip ?_) | (refine EvC.exit ?_) | (refine EvC.ret ?_; try simp only [z01, z00]) | (refine EvC.reg ?_; simp (config := { maxSteps := 2000000 }) (disch := first | omega | rfl) only [sB, Nat.reduceEqDiff, reduceCtorEq, z19, z6x, heq]) | (refine z0z ?_; simp (config := { maxSteps := 2000000 }) (disch := first | omega | rfl) only [sB, Nat.reduceEqDiff, reduceCtorEq]))
    exact z04 rfl (by simp only [sG, Nat.reduceEqDiff, reduceCtorEq] <;> rfl) ⟨rfl, (hx1.trans hx2).trans hx3⟩
theorem zaz : TellsS okT 106 canonS := by
  intro s H hs hw
  refine EvF.enter rfl Tryd.func106 (by decide) rfl ?_
  repeat' (first | refine EvC.seq ?_ | refine EvC.scope ?_ | refine EvC.block ?_ | (refine EvC.skip ?_) | (refine EvC.exit ?_) | (refine EvC.ret ?_; try simp only [z01, z00]) | (refine EvC.reg ?_; simp (config := { maxSteps := 2000000 }) (disch := first | omega | rfl) only [sB, initTm, Nat.reduceEqDiff, reduceCtorEq, znz]))
  refine (zgx hs hw).mono ?_
  rintro v H1 ⟨hP, hx1⟩
  rcases hP with ⟨hnone, e, he, rfl⟩ | ⟨n, L, a, c, hsome, rfl, hr, hLb, hval, hlast, hlen⟩
  · have hx2 := (hx1.new (some (.row [.bool false, .slice none 0 0] 149))).put (i := H1.next) hx1.next (Nat.lt_succ_self _) (some (.row [.bool false, .slice none 0 0] 149))
    repeat' (first | refine EvC.seq ?_ | refine EvC.scope ?_ | refine EvC.block ?_ | (refine EvC.skip ?_) | (refine EvC.exit ?_) | (refine EvC.ret ?_; try simp only [z01, z00]) | (refine EvC.reg ?_; simp (config := { maxSteps := 2000000 }) (disch := first | omega | rfl) only [sB, Nat.reduceEqDiff, reduceCtorEq, z2x]) | (refine z0z ?_; simp (config := { maxSteps := 2000000 }) (disch := first | omega | rfl) only [sB, dAlloc, Nat.reduceEqDiff, Nat.reduceAdd, one, reduceCtorEq, ziu, z8y]) | (refine EvC.condT ?_ ?_; simp (config := { maxSteps := 2000000 }) (disch := first | omega | rfl) only [sB, Nat.reduceEqDiff, reduceCtorEq]; refine z03 ?_))
    exact z04 rfl (by simp only [sB, Nat.reduceEqDiff, reduceCtorEq] <;> rfl) ⟨by unfold canonS; rw [hnone], hx2⟩
  · have hn : n < big := zay hsome
    have hx2 := ((HX.refl hx1.wf).new (some (.row [.bool false, .slice none 0 0] 149))).put (i := H1.next) (Nat.le_refl _) (Nat.lt_succ_self _) (some (.row [.bool (negS (bl s) && decide (0 < L.length)), .slice a L.length c] 149))
    repeat' (first | refine EvC.seq ?_ | refine EvC.scope ?_ | refine EvC.block ?_ | (refine EvC.skip ?_; try simp only [z02]) | (refine EvC.exit ?_) | (refine EvC.ret ?_; try simp only [z01, z00]) | (refine EvC.reg ?_; simp (config := { maxSteps := 2000000 }) (disch := first | omega | rfl) only [sB, Nat.reduceEqDiff, Nat.reduceAdd, reduceCtorEq, cutC, zak, zo0, z10]) | (refine z0z ?_; simp (config := { maxSteps := 2000000 }) (disch := first | omega | rfl) only [sB, dAlloc, Nat.reduceEqDiff, Nat.reduceAdd, one, reduceCtorEq, ziu, z8y]) | (refine EvC.condT ?_ ?_; simp (config := { maxSteps := 2000000 }) (disch := first | omega | rfl) only [sB, Nat.reduceEqDiff, reduceCtorEq]; refine z03 ?_) | (refine EvC.condF ?_ ?_; simp (config := { maxSteps := 2000000 }) (disch := first | omega | rfl) only [sB, Nat.reduceEqDiff, reduceCtorEq]; refine z03 ?_))
    refine (zj4 hx2.wf (hr.keep hx2 hx1.wf) hLb hlen hlast hval hn).mono ?_
    rintro v H2 ⟨⟨t, rfl, ht⟩, hx3⟩
    have htx : textD (negS (bl s) && decide (0 < L.length)) n = textD (negS (bl s)) n := by
      by_cases h0 : 0 < L.length
      · simp [h0]
      · have : L = [] := List.length_eq_zero_iff.1 (by omega)
        subst this
        have : n = 0 := by rw [← hval]; rfl
        subst this; rfl
    rw [htx] at ht
    have heq : (t.data.toList == s.data.toList) = canonS s := by
      rw [zdz, ht]
      unfold canonS; rw [hsome]
    repeat' (first | refine EvC.seq ?_ | refine EvC.scope ?_ | refine EvC.block ?_ | (refine EvC.skip ?_) | (refine EvC.exit ?_) | (refine EvC.ret ?_; try simp only [z01, z00]) | (refine z0z ?_; simp (config := { maxSteps := 2000000 }) (disch := first | omega | rfl) only [sB, Nat.reduceEqDiff, reduceCtorEq, z6x, heq]))
    exact z04 rfl (by simp only [sG, Nat.reduceEqDiff, reduceCtorEq] <;> rfl) ⟨rfl, (hx1.trans hx2).trans hx3⟩
end Go.Proofs.YtlllbkjiadcloaaDoor.hb
end

-- Y10
section
namespace Go.Proofs.YtlllbkjiadcloaaDoor.hb
open Go Go.RowKit Go.Hb
variable {ok : Ok}
set_option maxRecDepth 10000
attribute [local irreducible] LX LG EL STG SOP SGO SGD SAL SRD SEF SEG SLK SCK ES
def utfS (s : ByteArray) : Bool := Lib.validD s.data.toList
def fltS (n : Int) : Bool := !(fnB n || fiB n || n == 9223372036854775808)
def nodeS : Tm → Int := nodeE utfS canonS fltS
theorem zcb : TellsS okT 101 utfS := fun _ _ hs hw => zis (by decide) hw hs
theorem zh5 : TellsS okT 105 utfS := fun s H hs hw => (zf1 (fun _ _ => rfl) (by decide) s H hs hw).mono fun v H' h => by
  have h' : v = .bool (utfR s.size s.data.toList) ∧ HX H H' := h
  rw [z2y _ _ (by simp)] at h'; exact h'
theorem zb0 : TellsU okT 107 fltS := fun n H hn hw => (zh1 (fun _ _ => rfl) (by decide) n H hn hw).mono fun v H' h => by
  rw [zca n hn] at h; exact h
theorem zh6 : TellsN okT 89 103 104 fnB fiB := fun n H hn hw => ⟨zjc (fun _ _ => rfl) (by decide) n H hw, zjd (fun f _ _ h => by rcases h with rfl | rfl <;> rfl) (by decide) (by decide) n H hw⟩
theorem zf3 : TellsT okT 84 nodeS := fun t cs H r hw => zm5 (fun _ _ => rfl) (by decide) (fun _ _ => rfl) (by decide) zcb zf2 zh6 r hw
theorem zh7 : TellsT okT 85 nodeS := fun t cs H r hw => zng (fun _ _ => rfl) (by decide) zh5 zaz zb0 r hw
theorem zcc : TellsT okT 13 fun t => cnt t 0 := fun t cs H r hw => zj6 (fun f _ _ h => by rcases h with rfl | rfl <;> rfl) (by decide) (by decide) r hw
theorem zb1 : TellsT okT 14 fun t => cnt t 0 := fun t cs H r hw => zar (fun f _ _ h => by rcases h with rfl | rfl <;> rfl) (by decide) (by decide) r hw
def checkS : Tm → Int := checkE nodeS
theorem zcd : TellsT okT 15 checkS := zj9 zcc (zav zf3 (fun _ _ => rfl) (by decide)) (fun _ _ => rfl) (by decide)
theorem zb2 : TellsT okT 16 checkS := zaw zb1 (zf0 zh7 (fun _ _ => rfl) (by decide)) (fun _ _ => rfl) (by decide)
end Go.Proofs.YtlllbkjiadcloaaDoor.hb
end

-- Z0
section
namespace Go.Proofs.YtlllbkjiadcloaaDoor.hb
open Go Go.RowKit Go.Hb
def orZ (a b : Int) : Int := if a = 0 then b else a
theorem zce (x y : Int) : orZ (-x) (-y) = -(orZ x y) := by
  unfold orZ
  by_cases h : x = 0
  · subst h; simp
  · rw [if_neg h, if_neg (by omega)]
theorem z5y {x y : Int} : orZ x y = 0 ↔ x = 0 ∧ y = 0 := by
  unfold orZ
  by_cases h : x = 0
  · rw [if_pos h]; simp [h]
  · rw [if_neg h]; simp [h]
theorem z5e {a b : ByteArray} (h : a.toList = b.toList) : a = b := by
  rw [z1c, z1c] at h
  obtain ⟨⟨a⟩⟩ := a; obtain ⟨⟨b⟩⟩ := b
  simp at h; rw [h]
def Fine (t : Tm) : Prop := allE nodeS t = 0
theorem ze0 {E : Tm → Int} : ∀ {l : List Tm}, allL E l = 0 → ∀ u ∈ l, allE E u = 0
  | [], _, u, hu => by simp at hu
  | t :: l, h, u, hu => by
    rw [allL] at h
    split at h
    · rename_i h0
      rcases List.mem_cons.1 hu with rfl | hu
      · exact h0
      · exact ze0 h u hu
    · rename_i h0; exact absurd h h0
theorem Fine.node {t : Tm} (h : Fine t) : nodeS t = 0 := by
  unfold Fine at h
  rw [z74] at h
  split at h
  · assumption
  · rename_i h0; exact absurd h h0
theorem Fine.args {t : Tm} (h : Fine t) : ∀ u ∈ t.args, Fine u := by
  have h1 := h.node
  unfold Fine at h
  rw [z74, if_pos h1] at h
  exact ze0 h
theorem z28 {t : Tm} (h : nodeS t = 0) : 1 ≤ t.kind ∧ t.kind ≤ 5 ∧ blankB t = true ∧ 0 ≤ t.var ∧ (t.kind = 5 → 1 ≤ t.args.length ∧ t.args.length ≤ 64) ∧ (t.kind = 3 → canonS t.num = true) ∧ (t.kind = 4 → fltS t.bits = true) ∧ utfS t.name = true ∧ t.name.size ≤ 1000 := by
  unfold nodeS nodeE at h
  split at h
  · omega
  split at h
  · omega
  split at h
  · omega
  split at h
  · omega
  split at h
  · omega
  split at h
  · omega
  split at h
  · omega
  split at h
  · omega
  rename_i h1 h2 h3 h4 h5 h6 h7 h8
  refine ⟨by omega, by omega, by simpa using h2, by omega, fun h => ?_, fun h => ?_, fun h => ?_, by simpa using h5, by omega⟩
  · have := fun q => h4 ⟨h, q⟩; omega
  · cases hh : canonS t.num with
    | true => rfl
    | false => exact absurd ⟨h, hh⟩ h7
  · cases hh : fltS t.bits with
    | true => rfl
    | false => exact absurd ⟨h, hh⟩ h8
theorem zkz {s : ByteArray} (h : isE s = true) : s = ByteArray.empty := by
  unfold isE at h
  have h1 : s.toList = [] := by simpa using h
  apply z5e
  rw [h1]
  exact z13.symm
theorem z4y {t u : Tm} (h : u ∈ t.args) : SizeOf.sizeOf u < SizeOf.sizeOf t := by
  obtain ⟨k, s, w, b, v, l⟩ := t
  exact zdw h
theorem z3j {t : Tm} (h : blankB t = true) : (t.kind ≠ 2 → t.kind ≠ 5 → t.name = ByteArray.empty) ∧ (t.kind ≠ 3 → t.num = ByteArray.empty) ∧ (t.kind ≠ 4 → t.bits = 0) ∧ (t.kind ≠ 1 → t.var = 0) ∧ (t.kind ≠ 5 → t.args = []) := by
  unfold blankB at h
  simp only [Bool.and_eq_true, Bool.or_eq_true, beq_iff_eq] at h
  obtain ⟨⟨⟨⟨h1, h2⟩, h3⟩, h4⟩, h5⟩ := h
  refine ⟨fun a b => ?_, fun a => ?_, fun a => ?_, fun a => ?_, fun a => ?_⟩
  · rcases h1 with (h | h) | h
    · exact absurd h a
    · exact absurd h b
    · exact zkz h
  · rcases h2 with h | h
    · exact absurd h a
    · exact zkz h
  · rcases h3 with h | h
    · exact absurd h a
    · exact h
  · rcases h4 with h | h
    · exact absurd h a
    · exact h
  · rcases h5 with h | h
    · exact absurd h a
    · exact List.length_eq_zero_iff.1 (by omega)
theorem znn {t t' : Tm} (h1 : t.kind = t'.kind) (h2 : t.name = t'.name) (h3 : t.num = t'.num) (h4 : t.bits = t'.bits) (h5 : t.var = t'.var) (h6 : t.args = t'.args) : t = t' := by
  obtain ⟨k, s, u, b, v, l⟩ := t
  obtain ⟨k', s', u', b', v', l'⟩ := t'
  simp only [Tm.kind, Tm.name, Tm.num, Tm.bits, Tm.var, Tm.args] at *
  subst h1 h2 h3 h4 h5 h6; rfl
theorem z1q {t : Tm} : checkS t = 0 ↔ cnt t 0 ≤ 4000 ∧ Fine t := by
  unfold checkS checkE Fine
  by_cases h : 4000 < cnt t 0
  · rw [if_pos h]; constructor
    · intro h; omega
    · intro h; omega
  · rw [if_neg h]; constructor
    · intro h'; exact ⟨by omega, h'⟩
    · intro h'; exact h'.2
end Go.Proofs.YtlllbkjiadcloaaDoor.hb
end

-- V1
section
namespace Go.Hb
open Go Go.RowKit
theorem z78 {cs vs : List Value} {o k : Nat} (h : o + vs.length ≤ cs.length) : (splice cs o vs)[k]? = if o ≤ k ∧ k < o + vs.length then vs[k - o]? else cs[k]? := by
  rw [z1a _ _ _ (by omega)]
  simp only [List.getElem?_append, List.getElem?_take, List.getElem?_drop, List.length_take, List.length_append]
  grind
theorem z2k {cs vs : List Value} {o s : Nat} (h : o + s ≤ cs.length) (hv : vs.length = s) : ((splice cs o vs).drop o).take s = vs := by
  apply List.ext_getElem?
  intro k
  rw [List.getElem?_take, List.getElem?_drop, z78 (by omega)]
  by_cases hk : k < s
  · rw [if_pos hk, if_pos (by omega), show o + k - o = k by omega]
  · rw [if_neg hk, List.getElem?_eq_none (by omega)]
theorem z1d {cs vs : List Value} {o j s : Nat} (h : o + s ≤ cs.length) (hv : vs.length = s) (hd : j + s ≤ o ∨ o + s ≤ j) : ((splice cs o vs).drop j).take s = (cs.drop j).take s := by
  apply List.ext_getElem?
  intro k
  rw [List.getElem?_take, List.getElem?_drop, z78 (by omega), List.getElem?_take, List.getElem?_drop]
  by_cases hk : k < s
  · rw [if_pos hk, if_neg (by omega), if_pos hk]
  · rw [if_neg hk, if_neg hk]
theorem mul6 {i j : Nat} (h : i < j) : i * 6 + 6 ≤ j * 6 := by omega
theorem HX.pt {A H : Heap} (h : HX A H) {i : Nat} {B0 : Blk} (hi : A.next ≤ i) (hg : H.get i = some B0) (B : Option Blk) : HX A (H.put i B) := h.put hi (h.wf i _ hg) B
theorem zh8 {H : Heap} (hw : H.wf) (A B : Blk) : ∃ H2, (H.new (some A)).put H.next (some B) = H2 ∧ HX H H2 ∧ H2.get H.next = some B ∧ H2.next = H.next + 1 ∧ H2.wf := by
  have hx := ((HX.refl hw).new (some A)).put (i := H.next) (Nat.le_refl _) (Nat.lt_succ_self _) (some B)
  exact ⟨_, rfl, hx, by rw [get_put, if_pos rfl], rfl, hx.wf⟩
end Go.Hb
namespace Go.Proofs.YtlllbkjiadcloaaDoor.hb
open Go Go.RowKit Go.Hb
variable {ok : Ok}
set_option maxRecDepth 10000
attribute [local irreducible] LX LG EL STG SOP SGO SGD SAL SRD SEF SEG SLK SCK ES
theorem ze1 {t : Tm} (h : Fine t) : t.args.length ≤ 64 := by
  have k := z28 h.node
  by_cases h5 : t.kind = 5
  · exact (k.2.2.2.2.1 h5).2
  · rw [(z3j k.2.2.1).2.2.2.2 h5]; exact Nat.zero_le _
abbrev zero6 : List Value := [.int .i64 0, .string ByteArray.empty, .string ByteArray.empty, .int .u64 0, .int .i64 0, .slice none 0 0]
set_option maxHeartbeats 4000000 in
theorem zm8 {m : Nat} : ∀ {t : Tm} {cs : List Value} {H : Heap}, SizeOf.sizeOf t < m → RepT H t cs → Fine t → H.wf →
    EvF Tryd.prog okT 61 [.agg ⟨cs⟩] H fun v H' => ∃ cs', v = .agg ⟨cs'⟩ ∧ RepF H' 26 (Rg H.next H'.next) t cs' ∧ HX H H' := by
  induction m with
  | zero => intro t cs H h; omega
  | succ m ih =>
  intro t cs H hsz r hf hw
  have hbd := r.bd
  have hfew := ze1 hf
  obtain ⟨a, c, cells, rfl, -, -, -, -, -, rl⟩ := r.six
  refine EvF.enter rfl Tryd.func61 (by decide) rfl ?_
  (repeat refine EvC.seq ?_); refine EvC.reg ?_; simp (config := { maxSteps := 2000000 }) (disch := first | omega | rfl) only [sB, initTm, dBox, dAlloc, Value.cells, one, zr26]
  obtain ⟨H2, e2, hx2, gp, gq, hn2, hw2⟩ := new2 hw (.row (six t a c) 26) (.row zero6 26)
  simp only [e2]
  have q1 := row6 gp
  clear e2
  have hmost : t.args.length ≤ most := by unfold most; omega
  have ne1 : (H.next + 1 = H.next) = False := by simp
  have ne2 : (H.next = H.next + 1) = False := by simp
  by_cases h0 : t.args.length = 0
  · have h0' : (t.args.length : Int) = 0 := by omega
    have he : t.args = [] := List.length_eq_zero_iff.1 h0
    repeat' (first | refine EvC.seq ?_ | refine EvC.scope ?_ | refine EvC.block ?_ | (refine EvC.skip ?_) | (refine EvC.exit ?_) | (refine EvC.ret ?_; try simp only [z01, z00]) | (refine EvC.reg ?_; simp (config := { maxSteps := 2000000 }) (disch := first | omega | rfl) only [sB, Nat.reduceEqDiff, Nat.reduceAdd, one, reduceCtorEq, cutC, z0r, ld24, ln24, st24, ld26, st26, q1, gp, gq, z19 h0', ne1]) | (refine EvC.condT ?_ ?_; simp (config := { maxSteps := 2000000 }) (disch := first | omega | rfl) only [sB, Nat.reduceEqDiff, reduceCtorEq]; refine z03 ?_))
    have hx3 := (hx2.pt (Nat.le_refl _) gp (some (.row [.int .i64 t.kind, .string t.name, .string t.num, .int .u64 t.bits, .int .i64 t.var, .slice none 0 0] 26))).pt (i := H.next + 1) (Nat.le_succ _) (by rw [get_put, if_neg (by omega)]; exact gq)
      (some (.row [.int .i64 t.kind, .string t.name, .string t.num, .int .u64 t.bits, .int .i64 t.var, .slice none 0 0] 26))
    refine z1p rfl (by simp only [sB, Nat.reduceEqDiff, reduceCtorEq] <;> rfl) (by simp only [sB, Nat.reduceAdd, cutC, ld26]; rfl) ⟨_, rfl, ⟨none, 0, ?_, hbd, ?_⟩, hx3⟩
    · simp only [six, h0]
    · rw [he]; exact .nil _
  · have h0' : (t.args.length : Int) ≠ 0 := by omega
    have ne3 : (H.next = H2.next) = False := by simp; omega
    repeat' (first | refine EvC.seq ?_ | refine EvC.scope ?_ | refine EvC.block ?_ | (refine EvC.skip ?_; try simp only [z02]) | (refine EvC.exit ?_) | (refine EvC.ret ?_; try simp only [z01, z00]) | (refine EvC.reg ?_; simp (config := { maxSteps := 2000000 }) (disch := first | omega | rfl) only [sB, Nat.reduceEqDiff, reduceCtorEq, cutC, z0r, ld24, ln24, q1, z0i h0', z6r mk24, ne3]) | (refine EvC.condT ?_ ?_; simp (config := { maxSteps := 2000000 }) (disch := first | omega | rfl) only [sB, Nat.reduceEqDiff, reduceCtorEq]; refine z03 ?_) | (refine EvC.condF ?_ ?_; simp (config := { maxSteps := 2000000 }) (disch := first | omega | rfl) only [sB, Nat.reduceEqDiff, reduceCtorEq]; refine z03 ?_))
    obtain ⟨H3, e3, hx3, gr, hn3, hw3⟩ := new1 hw2 (.row (repL t.args.length zero6) 26)
    simp only [e3]
    clear e3
    have gp3 := hx3.get hw2 gp
    have gq3 := hx3.get hw2 gq
    have hx23 := hx2.trans hx3
    have hmax := rl.max
    rw [hn2] at gr hn3
    refine EvC.loop (fun k st => ∃ tm H' i cells' Si ai ci, st = ⟨tm, [], H'⟩ ∧ k = t.args.length - i ∧ i ≤ t.args.length ∧
      tm.get 1 = some (.pointer (some ⟨H.next, 0, none⟩)) ∧ tm.get 2 = some (.pointer (some ⟨H.next + 1, 0, none⟩)) ∧ tm.get 3 = some (.slice (some ⟨H.next + 2, 0, none⟩) t.args.length t.args.length) ∧
      tm.get 17 = some (.slice a t.args.length c) ∧ tm.get 18 = some (.int .i64 t.args.length) ∧ tm.get 19 = some (.int .i64 (i : Nat)) ∧
      H'.get H.next = some (.row (six t a c) 26) ∧ H'.get (H.next + 1) = some (.row zero6 26) ∧ H'.get (H.next + 2) = some (.row cells' 26) ∧ cells'.length = t.args.length * 6 ∧
      FLs H' 26 (Rg (H.next + 3) H'.next) (t.args.take i) cells' Si ai ci ∧ HX H H') ?_ t.args.length _ ?_
    · rintro k st ⟨tm, H', i, cells', Si, ai, ci, rfl, rfl, hi, t1, t2, t3, t17, t18, t19, gp', gq', gr', hlen, hfl, hx'⟩
      have q1 := row6 gp'
      by_cases hlt : i < t.args.length
      · obtain ⟨b, o, a1, c1, rfl, hld, hr1⟩ := rl.el hlt
        have hld1 := hx'.load hw hld
        repeat' (first | refine EvC.seq ?_ | refine EvC.scope ?_ | refine EvC.block ?_ | (refine EvC.skip ?_; try simp only [z02]) | (refine EvC.exit ?_) | (refine EvC.ret ?_; try simp only [z01, z00]) | (refine EvC.reg ?_; simp (config := { maxSteps := 2000000 }) (disch := first | omega | rfl) only [sB, dAlloc, Nat.reduceEqDiff, Nat.reduceAdd, one, cutC, zr26, ld26, st26, ia24, cl61, t3, t17, t18, t19, decl hlt, hld1]) | (refine EvC.condT ?_ ?_; simp (config := { maxSteps := 2000000 }) (disch := first | omega | rfl) only [sB]; refine z03 ?_))
        obtain ⟨H4, e4, hx4, g4, hn4, hw4⟩ := zh8 hx'.wf (.row zero6 26) (.row (six t.args[i] a1 c1) 26)
        simp only [e4]
        clear e4
        have hs := z1h (List.getElem?_eq_getElem hlt)
        refine (ih (t := t.args[i]) (by omega) (hr1.mono (hx'.trans hx4) hw) (hf.args _ (List.getElem_mem _)) hw4).mono ?_
        rintro v H5 ⟨cs', rfl, ⟨a2, c2, rfl, hb2, hf2⟩, hx5⟩
        have hx45 := hx4.trans hx5
        have gr5 := hx45.get hx'.wf gr'
        have gp5 := hx45.get hx'.wf gp'
        have gq5 := hx45.get hx'.wf gq'
        have hle : i * 6 + 6 ≤ cells'.length := by rw [hlen]; exact mul6 hlt
        have hln := hx45.next
        have hln2 := hx5.next
        have hlt3 := hx'.wf _ _ gq'
        have hlt4 := hx'.wf _ _ gr'
        repeat' (first | refine EvC.seq ?_ | refine EvC.scope ?_ | refine EvC.block ?_ | (refine EvC.skip ?_) | (refine EvC.exit ?_) | (refine EvC.ret ?_; try simp only [z01, z00]) | (refine EvC.reg ?_; simp (config := { maxSteps := 2000000 }) (disch := first | omega | rfl) only [sB, Nat.reduceEqDiff, t19, z06]) | (refine z0z ?_; simp (config := { maxSteps := 2000000 }) (disch := first | omega | rfl) only [sB, Nat.reduceAdd, one, st26, gr5, hle]))
        have hx6 := (hx'.trans hx45).pt (i := H.next + 2) (by omega) gr5 (some (.row (Hb.splice cells' (i * 6) (six t.args[i] a2 c2)) 26))
        have et : t.args.take (i + 1) = t.args.take i ++ [t.args[i]] := (List.take_append_getElem hlt).symm
        have etl : (t.args.take i).length = i := by rw [List.length_take]; omega
        obtain ⟨Si', ai', ci', hsn⟩ : ∃ Si ai ci, FLs (H5.put (H.next + 2) (some (.row (Hb.splice cells' (i * 6) (six t.args[i] a2 c2)) 26))) 26 (Rg (H.next + 3) H5.next) (t.args.take (i + 1)) (Hb.splice cells' (i * 6) (six t.args[i] a2 c2)) Si ai ci := by
          rw [et]
          refine ⟨_, _, _, hfl.snoc (S' := Rg (H.next + 3) H5.next) (N := Rg H4.next H5.next) (fun n hn hl => ?_) hx'.wf (hf2.heap (fun n hn hl => ?_) hx5.wf) hb2 (fun n hn hs => ?_) (fun n hn => ?_) (fun n hn => ?_) (fun j hj => ?_) ?_⟩
          · have := hn.1
            rw [get_put, if_neg (by omega)]; exact hx45.keep n hl
          · have := hn.1
            rw [get_put, if_neg (by omega)]
          · have := hn.1; have := hs.2; omega
          · exact ⟨hn.1, by have := hn.2; omega⟩
          · exact ⟨by have := hn.1; omega, hn.2⟩
          · rw [etl] at hj
            exact z1d hle rfl (.inl (mul6 hj))
          · rw [etl]
            exact z2k hle rfl
        exact ⟨t.args.length - (i + 1), by omega, _, _, i + 1, Hb.splice cells' (i * 6) (six t.args[i] a2 c2), Si', ai', ci', rfl, rfl, by omega, (by simp only [sG, Nat.reduceEqDiff, t1] <;> rfl), (by simp only [sG, Nat.reduceEqDiff, t2] <;> rfl), (by simp only [sG, Nat.reduceEqDiff, t3] <;> rfl), (by simp only [sG, Nat.reduceEqDiff, t17] <;> rfl), (by simp only [sG, Nat.reduceEqDiff, t18] <;> rfl), (by simp only [sB, Nat.reduceEqDiff] <;> rfl),
          by rw [get_put, if_neg (by omega)]; exact gp5, by rw [get_put, if_neg (by omega)]; exact gq5, by rw [get_put, if_pos rfl], by rw [z0s hle]; exact hlen, hsn, hx6⟩
      · repeat' (first | refine EvC.seq ?_ | refine EvC.scope ?_ | refine EvC.block ?_ | (refine EvC.skip ?_) | (refine EvC.exit ?_; try simp only [sB]) | (refine EvC.ret ?_; try simp only [z01, z00]) | (refine EvC.reg ?_; simp (config := { maxSteps := 2000000 }) (disch := first | omega | rfl) only [sB, Nat.reduceEqDiff, Nat.reduceAdd, one, cutC, z0r, st24, ld26, st26, t1, t2, t3, t18, t19, q1, gp', gq', decn hlt, ne1]) | (refine EvC.condT ?_ ?_; simp (config := { maxSteps := 2000000 }) (disch := first | omega | rfl) only [sB]; refine z03 ?_) | (refine EvC.condF ?_ ?_; simp (config := { maxSteps := 2000000 }) (disch := first | omega | rfl) only [sB]; refine z03 ?_))
        have hi' : i = t.args.length := by omega
        have hlt3 := hx'.wf _ _ gr'
        have hx7 := (hx'.pt (Nat.le_refl _) gp' (some (.row (six t (some ⟨H.next + 2, 0, none⟩) t.args.length) 26))).pt (i := H.next + 1) (Nat.le_succ _) (by rw [get_put, if_neg (by omega)]; exact gq')
          (some (.row (six t (some ⟨H.next + 2, 0, none⟩) t.args.length) 26))
        refine z1p rfl (by simp only [sB, Nat.reduceEqDiff, t2] <;> rfl) (by simp only [sB, Nat.reduceAdd, cutC, ld26] <;> rfl) ⟨_, rfl, ⟨some ⟨H.next + 2, 0, none⟩, t.args.length, rfl, hbd, ?_⟩, hx7⟩
        rw [hi', List.take_of_length_le (Nat.le_refl _)] at hfl
        refine (hfl.heap (fun n hn _ => ?_) hx'.wf).row (Nat.le_refl _) (Nat.le_trans hfew (by simp [maxLen])) (cells := cells') ?_ (by omega) ⟨by omega, hlt3⟩ (fun h => ?_) (fun n hn => ⟨by have := hn.1; omega, hn.2⟩)
        · have := hn.1
          rw [get_put, if_neg (by omega), get_put, if_neg (by omega)]
        · rw [get_put, if_neg (by omega), get_put, if_neg (by omega)]; exact gr'
        · have := h.1; omega
    · refine ⟨_, _, 0, repL t.args.length zero6, fun _ _ => False, fun _ => none, fun _ => 0, rfl, rfl, by omega, (by simp only [sG, Nat.reduceEqDiff, reduceCtorEq] <;> rfl), (by simp only [sG, Nat.reduceEqDiff, reduceCtorEq] <;> rfl), by rw [hn2]; first | (simp only [sG, Nat.reduceEqDiff, reduceCtorEq]; rfl) | simp only [sG, Nat.reduceEqDiff, reduceCtorEq], (by simp only [sG, Nat.reduceEqDiff, reduceCtorEq] <;> rfl), (by simp only [sG, Nat.reduceEqDiff, reduceCtorEq] <;> rfl), (by simp only [sB, Nat.reduceEqDiff, reduceCtorEq] <;> rfl), gp3, gq3, gr, by rw [z49]; rfl, FLs.nil, hx23⟩
end Go.Proofs.YtlllbkjiadcloaaDoor.hb
end

-- So2
section
namespace Go.Hb
open Go Go.RowKit
structure El where
  t : Tm
  a : Option Addr
  c : Nat
  S : Nat → Prop
abbrev El.six (e : El) : List Value := Hb.six e.t e.a e.c
theorem El.six_len (e : El) : e.six.length = 6 := rfl
theorem El.six_ones (e : El) : e.six.all one = true := rfl
structure RowE (H : Heap) (T : TypeId) (b n : Nat) (D : Nat → El) : Prop where
  row : ∃ cells, H.get b = some (.row cells T) ∧ n * 6 ≤ cells.length ∧ ∀ k, k < n → (cells.drop (k * 6)).take 6 = (D k).six
theorem RowE.load {H : Heap} {T : TypeId} {b n : Nat} {D : Nat → El} (h : RowE H T b n D) {k : Nat} (hk : k < n) : H.load ⟨b, k * 6, none⟩ 6 = some (D k).six := by
  obtain ⟨cells, hg, hl, he⟩ := h
  unfold Heap.load Heap.cells
  simp only [hg, he k hk]
  rfl
theorem RowE.heap {H H' : Heap} {T : TypeId} {b n : Nat} {D : Nat → El} (h : RowE H T b n D) (hg : H'.get b = H.get b) : RowE H' T b n D := by
  obtain ⟨cells, h1, h2⟩ := h
  exact ⟨cells, by rw [hg]; exact h1, h2⟩
theorem RowE.congr {H : Heap} {T : TypeId} {b n : Nat} {D E : Nat → El} (h : RowE H T b n D) (he : ∀ k, k < n → E k = D k) : RowE H T b n E := by
  obtain ⟨cells, h1, h2, h3⟩ := h
  exact ⟨cells, h1, h2, fun k hk => by rw [he k hk]; exact h3 k hk⟩
theorem RowE.put {H : Heap} {T : TypeId} {b n : Nat} {D : Nat → El} {cells : List Value} (hl : n * 6 ≤ cells.length) (he : ∀ k, k < n → (cells.drop (k * 6)).take 6 = (D k).six) {i : Nat} (hi : i < n) (e : El) :
    RowE (H.put b (some (.row (Hb.splice cells (i * 6) e.six) T))) T b n (fun k => if k = i then e else D k) := by
  have hle : i * 6 + e.six.length ≤ cells.length := by have := mul6 hi; rw [El.six_len]; omega
  refine ⟨_, by rw [get_put, if_pos rfl], by rw [z0s hle]; exact hl, fun k hk => ?_⟩
  by_cases h : k = i
  · subst h; rw [if_pos rfl]; exact z2k (s := 6) hle rfl
  · rw [if_neg h, z1d (s := 6) hle rfl (by rcases Nat.lt_or_gt_of_ne h with h | h; exact .inl (mul6 h); exact .inr (mul6 h))]; exact he k hk
theorem RowE.swap {H : Heap} {T : TypeId} {b n : Nat} {D : Nat → El} {cells : List Value} (hl : n * 6 ≤ cells.length) (he : ∀ k, k < n → (cells.drop (k * 6)).take 6 = (D k).six) {i j : Nat} (hi : i < n) (hj : j < n) (hij : i ≠ j) (H2 : Heap)
    (h2 : H2.get b = some (.row (Hb.splice (Hb.splice cells (i * 6) (D j).six) (j * 6) (D i).six) T)) : RowE H2 T b n (swF i j D) := by
  obtain ⟨c1, g1, l1, e1⟩ := RowE.put (H := H) (T := T) (b := b) hl he hi (D j)
  rw [get_put, if_pos rfl] at g1
  cases g1
  have := (RowE.put (H := H2) (T := T) (b := b) l1 e1 hj (D i)).heap (H' := H2) (by rw [get_put, if_pos rfl, h2])
  refine this.congr fun k hk => ?_
  unfold swF
  by_cases h1 : k = i
  · subst h1; rw [if_pos rfl, if_neg hij, if_pos rfl]
  · rw [if_neg h1]
    by_cases h3 : k = j
    · rw [if_pos h3, if_pos h3]
    · rw [if_neg h3, if_neg h3, if_neg h1]
end Go.Hb
end

-- So3a
section
namespace Go.Hb
open Go Go.RowKit
theorem gtl {i n : Nat} (h : n < i) : decide ((i : Int) > (n : Int)) = true := decide_eq_true (by omega)
theorem gtn {i n : Nat} (h : ¬ n < i) : decide ((i : Int) > (n : Int)) = false := decide_eq_false (by omega)
theorem HK.hxs {S : Nat → Prop} {A B C : Heap} (h : HK S A B) (k : HX B C) : HK S A C := h.trans (k.hk S)
theorem HK.two {b : Nat} {A H : Heap} (h : HK (· = b) A H) (hb : b < H.next) (k : Nat) (B C : Option Blk) : HK (· = b) A (((⟨H.next + k, H.t⟩ : Heap).put b B).put b C) :=
  ((h.bump k).put (.inl rfl) (Nat.lt_add_right _ hb) B).put (.inl rfl) (Nat.lt_add_right _ hb) C
theorem zjf {α : Type} {i j : Nat} {D : Nat → α} : swF i j D = swF j i D := by
  funext k; unfold swF
  by_cases h1 : k = i
  · subst h1
    rw [if_pos rfl]
    by_cases h2 : k = j
    · subst h2; rw [if_pos rfl]
    · rw [if_neg h2, if_pos rfl]
  · rw [if_neg h1]
    by_cases h2 : k = j
    · rw [if_pos h2, if_pos h2]
    · rw [if_neg h2, if_neg h2, if_neg h1]
def swrF {α : Type} (a b k : Nat) (D : Nat → α) : Nat → α := fun i => if a ≤ i ∧ i < a + k then D (i - a + b) else if b ≤ i ∧ i < b + k then D (i - b + a) else D i
theorem zh9 {α : Type} {a b : Nat} {D : Nat → α} : swrF a b 0 D = D := by
  funext i; unfold swrF; rw [if_neg (by omega), if_neg (by omega)]
theorem zha {α : Type} {a b k : Nat} {D : Nat → α} (h : a + k < b ∨ b + k < a) : swF (a + k) (b + k) (swrF a b k D) = swrF a b (k + 1) D := by
  funext i
  unfold swF swrF
  by_cases h1 : i = a + k
  · subst h1
    rw [if_pos rfl, if_neg (by omega), if_neg (by omega), if_pos (by omega)]; congr 1; omega
  · rw [if_neg h1]
    by_cases h2 : i = b + k
    · subst h2
      rw [if_pos rfl, if_neg (by omega), if_neg (by omega), if_neg (by omega), if_pos (by omega)]; congr 1; omega
    · rw [if_neg h2]
      by_cases h3 : a ≤ i ∧ i < a + k
      · rw [if_pos h3, if_pos (by omega)]
      · rw [if_neg h3, if_neg (show ¬(a ≤ i ∧ i < a + (k + 1)) by omega)]
        by_cases h4 : b ≤ i ∧ i < b + k
        · rw [if_pos h4, if_pos (by omega)]
        · rw [if_neg h4, if_neg (by omega)]
theorem zjg {α : Type} {a m b : Nat} {D : Nat → α} (h1 : a < m) (h2 : m < b) (h3 : b - m < m - a) : rotF (a + (b - m)) m b (swrF a m (b - m) D) = rotF a m b D := by
  funext k
  unfold rotF swrF
  repeat' split
  all_goals first | (exfalso; omega) | (congr 1; omega) | rfl
theorem zhb {α : Type} {a m b : Nat} {D : Nat → α} (h1 : a < m) (h2 : m < b) (h3 : m - a < b - m) : rotF a m (b - (m - a)) (swrF a (b - (m - a)) (m - a) D) = rotF a m b D := by
  funext k
  unfold rotF swrF
  repeat' split
  all_goals first | (exfalso; omega) | (congr 1; omega) | rfl
theorem zjh {α : Type} {a m b : Nat} {D : Nat → α} (h1 : a < m) (h3 : m - a = b - m) : swrF a m (m - a) D = rotF a m b D := by
  funext k
  unfold rotF swrF
  repeat' split
  all_goals first | (exfalso; omega) | (congr 1; omega) | rfl
end Go.Hb
end

-- So3
section
namespace Go.Proofs.YtlllbkjiadcloaaDoor.hb
open Go Go.RowKit Go.Hb
variable {ok : Ok}
set_option maxRecDepth 10000
attribute [local irreducible] LX LG EL STG SOP SGO SGD SAL SRD SEF SEG SLK SCK ES
abbrev cvF (g : FuncId) : Value := .func (.func g) #[] #[]
structure Cmps (g : FuncId) (H0 : Heap) (b : Nat) (G : El → Prop) (cmp : El → El → Int) : Prop where
  call : callable Tryd.prog g = true
  ord : Ordr G cmp
  run : ∀ x y H, G x → G y → HK (· = b) H0 H → EvF Tryd.prog okT g [.agg ⟨x.six⟩, .agg ⟨y.six⟩] H fun v H' => v = .int .i64 (cmp x y) ∧ HX H H'
set_option maxHeartbeats 4000000 in
theorem z3k {b n c x y k : Nat} {D : Nat → El} {H : Heap} {cv : Value} (hr : RowE H 26 b n D) (hn : n ≤ most) (hx : x + k ≤ n) (hy : y + k ≤ n) (hd : x + k ≤ y ∨ y + k ≤ x) (hw : H.wf) :
    EvF Tryd.prog okT 148 [.slice (some ⟨b, 0, none⟩) n c, .int .i64 (x : Nat), .int .i64 (y : Nat), .int .i64 (k : Nat), cv] H fun _ H' =>
      RowE H' 26 b n (swrF x y k D) ∧ HK (· = b) H H' := by
  have hms : most ≤ 1048576 := by simp [most]
  refine EvF.enter rfl Tryd.func148 (by decide) rfl ?_
  repeat' (first | refine EvC.seq ?_ | refine EvC.scope ?_ | refine EvC.block ?_ | (refine EvC.skip ?_) | (refine EvC.exit ?_) | (refine EvC.ret ?_; try simp only [z01, z00]) | (refine EvC.reg ?_; simp (config := { maxSteps := 2000000 }) (disch := first | omega | rfl) only [sA, initTm, Nat.reduceAdd]))
  refine EvC.loop (fun m st => ∃ tm H' i, st = ⟨tm, [], H'⟩ ∧ m = k - i ∧ i ≤ k ∧ tm.get 0 = some (.slice (some ⟨b, 0, none⟩) n c) ∧ tm.get 1 = some (.int .i64 (x : Nat)) ∧ tm.get 2 = some (.int .i64 (y : Nat)) ∧ tm.get 3 = some (.int .i64 (k : Nat)) ∧
    tm.get 10 = some (.int .i64 (i : Nat)) ∧ RowE H' 26 b n (swrF x y i D) ∧ HK (· = b) H H') ?_ k _ ?_
  · rintro m st ⟨tm, H', i, rfl, rfl, hi, t0, t1, t2, t3, t10, hr', hk⟩
    by_cases hlt : i < k
    · have hw1 : IntKind.i64.wrap ((x : Int) + (i : Int)) = ((x + i : Nat) : Int) := by rw [z06 (by omega) (by omega)]; omega
      have hw2 : IntKind.i64.wrap ((y : Int) + (i : Int)) = ((y + i : Nat) : Int) := by rw [z06 (by omega) (by omega)]; omega
      have l1 := hr'.load (k := x + i) (by omega)
      have l2 := hr'.load (k := y + i) (by omega)
      obtain ⟨cells, hg, hl, he⟩ := hr'.row
      have hbl := hk.wf _ _ hg
      have k1 : x + i < n := by omega
      have k2 : y + i < n := by omega
      have le1 : (x + i) * 6 + 6 ≤ cells.length := by have := mul6 k1; omega
      have le2 : (y + i) * 6 + 6 ≤ cells.length := by have := mul6 k2; omega
      have hsw := fun H2 h2 => RowE.swap (H := H') (b := b) (T := 26) hl he k1 k2 (by omega) H2 h2
      rw [zha (by omega)] at hsw
      generalize swrF x y i D (x + i) = E1 at *
      generalize swrF x y i D (y + i) = E2 at *
      have le3 : (y + i) * 6 + 6 ≤ (Hb.splice cells ((x + i) * 6) E2.six).length := by rw [z0s (vs := E2.six) le1]; exact le2
      repeat' (first | refine EvC.seq ?_ | refine EvC.scope ?_ | refine EvC.block ?_ | (refine EvC.skip ?_; try simp only [z02]) | (refine EvC.exit ?_) | (refine EvC.ret ?_; try simp only [z01, z00]) | (refine EvC.reg ?_; simp (config := { maxSteps := 2000000 }) (disch := first | omega | rfl) only [sB, Nat.reduceEqDiff, t3, t10, decl hlt, z06]) | (refine EvC.drw [([(0, 0), (1, 0), (2, 0), (3, 0), (8, 0), (9, 0), (10, 0), (11, 0), (12, 0), (13, 0), (14, 0), (15, 0), (16, 0), (17, 0), (18, 0), (19, 0), (20, 0)], some 21), ([(4, 0), (5, 0), (6, 0), (7, 0), (22, 1)], some 23), ([], none)] ?_ ?_; kernel_rfl; simp (config := { maxSteps := 2000000 }) (disch := first | omega | rfl) only [sV, sD, sB, Nat.reduceEqDiff, Nat.reduceAdd, one, reduceCtorEq, ia24, ld26, st26, t0, t1, t2, t10, hw1, hw2, l1, l2, hg, le1, le3, isAlloc, isRead, reduceCtorEq]) | (refine EvC.condT ?_ ?_; simp (config := { maxSteps := 2000000 }) (disch := first | omega | rfl) only [sB, Nat.reduceEqDiff]; refine z03 ?_))
      exact ⟨k - (i + 1), by omega, _, _, i + 1, rfl, rfl, by omega, (by simp only [sG, reduceCtorEq, t0] <;> rfl), (by simp only [sG, Nat.reduceEqDiff, t1] <;> rfl), (by simp only [sG, Nat.reduceEqDiff, t2] <;> rfl), (by simp only [sG, Nat.reduceEqDiff, t3] <;> rfl), (by simp only [sB, Nat.reduceEqDiff] <;> rfl), hsw _ (by rw [get_put, if_pos rfl]), hk.two hbl _ _ _⟩
    · repeat' (first | refine EvC.seq ?_ | refine EvC.scope ?_ | refine EvC.block ?_ | (refine EvC.skip ?_) | (refine EvC.exit ?_; try simp only [sB]) | (refine EvC.ret ?_; try simp only [z01, z00]) | (refine EvC.reg ?_; simp (config := { maxSteps := 2000000 }) (disch := first | omega | rfl) only [sB, Nat.reduceEqDiff, t3, t10, decn hlt]) | (refine EvC.condT ?_ ?_; simp (config := { maxSteps := 2000000 }) (disch := first | omega | rfl) only [sB, Nat.reduceEqDiff]; refine z03 ?_) | (refine EvC.condF ?_ ?_; simp (config := { maxSteps := 2000000 }) (disch := first | omega | rfl) only [sB, Nat.reduceEqDiff]; refine z03 ?_))
      obtain rfl : i = k := by omega
      exact z0v rfl ⟨hr', hk⟩
  · exact ⟨_, _, 0, rfl, rfl, Nat.zero_le _, (by simp only [sG, reduceCtorEq] <;> rfl), (by simp only [sG, Nat.reduceEqDiff, reduceCtorEq] <;> rfl), (by simp only [sG, Nat.reduceEqDiff, reduceCtorEq] <;> rfl), (by simp only [sG, Nat.reduceEqDiff, reduceCtorEq] <;> rfl), (by simp only [sB, Nat.reduceEqDiff, reduceCtorEq] <;> rfl), by rw [zh9]; exact hr, HK.refl hw⟩
set_option maxHeartbeats 4000000 in
theorem zhc {b n c a m e : Nat} {D : Nat → El} {H : Heap} {cv : Value} (hr : RowE H 26 b n D) (hn : n ≤ most) (h1 : a < m) (h2 : m < e) (h3 : e ≤ n) (hw : H.wf) :
    EvF Tryd.prog okT 130 [.slice (some ⟨b, 0, none⟩) n c, .int .i64 (a : Nat), .int .i64 (m : Nat), .int .i64 (e : Nat), cv] H fun _ H' =>
      RowE H' 26 b n (rotF a m e D) ∧ HK (· = b) H H' := by
  have hms : most ≤ 1048576 := by simp [most]
  refine EvF.enter rfl Tryd.func130 (by decide) rfl ?_
  have hw1 : IntKind.i64.wrap ((m : Int) - (a : Int)) = ((m - a : Nat) : Int) := by rw [z06 (by omega) (by omega)]; omega
  have hw2 : IntKind.i64.wrap ((e : Int) - (m : Int)) = ((e - m : Nat) : Int) := by rw [z06 (by omega) (by omega)]; omega
  (repeat refine EvC.seq ?_); refine EvC.reg ?_; simp (config := { maxSteps := 2000000 }) (disch := first | omega | rfl) only [sB, initTm, Nat.reduceEqDiff, Nat.reduceAdd, reduceCtorEq, hw1]
  (repeat refine EvC.seq ?_); refine EvC.reg ?_; simp (config := { maxSteps := 2000000 }) (disch := first | omega | rfl) only [sB, Nat.reduceEqDiff, reduceCtorEq, hw2]
  refine EvC.cut (fun st => ∃ tm H' i D', st = ⟨tm, [], H'⟩ ∧ i ≤ m ∧ tm.get 0 = some (.slice (some ⟨b, 0, none⟩) n c) ∧ tm.get 2 = some (.int .i64 (m : Nat)) ∧ tm.get 4 = some cv ∧
    tm.get 10 = some (.int .i64 ((m - i : Nat) : Int)) ∧ i < m ∧ m + (m - i) ≤ n ∧ RowE H' 26 b n D' ∧ HK (· = b) H H' ∧ swrF i m (m - i) D' = rotF a m e D) ?_ ?_
  · refine EvC.block (EvC.loop (fun k st => ∃ tm H' i j D', st = ⟨tm, [], H'⟩ ∧ k = j - i ∧ i < m ∧ m < j ∧ j ≤ n ∧ tm.get 0 = some (.slice (some ⟨b, 0, none⟩) n c) ∧ tm.get 2 = some (.int .i64 (m : Nat)) ∧ tm.get 4 = some cv ∧
      tm.get 10 = some (.int .i64 ((m - i : Nat) : Int)) ∧ tm.get 11 = some (.int .i64 ((j - m : Nat) : Int)) ∧ RowE H' 26 b n D' ∧ HK (· = b) H H' ∧ rotF i m j D' = rotF a m e D) ?_ (e - a) _ ?_)
    · rintro k st ⟨tm, H', i, j, D', rfl, rfl, hi, hj, hjn, t0, t2, t4, t10, t11, hr', hk, he⟩
      by_cases hne : m - i = j - m
      · have hd : (((m - i : Nat) : Int) != ((j - m : Nat) : Int)) = false := by simp; omega
        repeat' (first | refine EvC.seq ?_ | refine EvC.scope ?_ | refine EvC.block ?_ | (refine EvC.skip ?_) | (refine EvC.exit ?_; try simp only [sB, reduceCtorEq]) | (refine EvC.ret ?_; try simp only [z01, z00]) | (refine EvC.reg ?_; simp (config := { maxSteps := 2000000 }) (disch := first | omega | rfl) only [sB, Nat.reduceEqDiff, t10, t11, hd]) | (refine EvC.condT ?_ ?_; simp (config := { maxSteps := 2000000 }) (disch := first | omega | rfl) only [sB, Nat.reduceEqDiff]; refine z03 ?_) | (refine EvC.condF ?_ ?_; simp (config := { maxSteps := 2000000 }) (disch := first | omega | rfl) only [sB, Nat.reduceEqDiff]; refine z03 ?_))
        exact ⟨_, _, i, D', rfl, by omega, (by simp only [sG, reduceCtorEq, t0] <;> rfl), (by simp only [sG, Nat.reduceEqDiff, t2] <;> rfl), (by simp only [sG, Nat.reduceEqDiff, t4] <;> rfl), (by simp only [sG, Nat.reduceEqDiff, t10] <;> rfl), hi, by omega, hr', hk, by rw [← he]; exact zjh hi hne⟩
      · have hd : (((m - i : Nat) : Int) != ((j - m : Nat) : Int)) = true := by simp; omega
        by_cases hlt : j - m < m - i
        · have hw3 : IntKind.i64.wrap ((m : Int) - ((m - i : Nat) : Int)) = ((i : Nat) : Int) := by rw [z06 (by omega) (by omega)]; omega
          have hw4 : IntKind.i64.wrap (((m - i : Nat) : Int) - ((j - m : Nat) : Int)) = ((m - (i + (j - m)) : Nat) : Int) := by rw [z06 (by omega) (by omega)]; omega
          repeat' (first | refine EvC.seq ?_ | refine EvC.scope ?_ | refine EvC.block ?_ | (refine EvC.skip ?_; try simp only [z02]) | (refine EvC.exit ?_) | (refine EvC.ret ?_; try simp only [z01, z00]) | (refine EvC.reg ?_; simp (config := { maxSteps := 2000000 }) (disch := first | omega | rfl) only [sB, Nat.reduceEqDiff, reduceCtorEq, zlp, t0, t2, t4, t10, t11, hd, gtl hlt, hw3]) | (refine EvC.condT ?_ ?_; simp (config := { maxSteps := 2000000 }) (disch := first | omega | rfl) only [sB, Nat.reduceEqDiff]; refine z03 ?_))
          refine (z3k hr' hn (by omega) (by omega) (by omega) hk.wf).mono ?_
          rintro v H2 ⟨hr2, hk2⟩
          repeat' (first | refine EvC.seq ?_ | refine EvC.scope ?_ | refine EvC.block ?_ | (refine EvC.skip ?_) | (refine EvC.exit ?_) | (refine EvC.ret ?_; try simp only [z01, z00]) | (refine EvC.reg ?_; simp (config := { maxSteps := 2000000 }) (disch := first | omega | rfl) only [sB, Nat.reduceEqDiff, t10, t11, hw4]))
          exact ⟨j - (i + (j - m)), by omega, _, _, i + (j - m), j, _, rfl, rfl, by omega, hj, hjn, (by simp only [sG, reduceCtorEq, t0] <;> rfl), (by simp only [sG, Nat.reduceEqDiff, t2] <;> rfl), (by simp only [sG, Nat.reduceEqDiff, t4] <;> rfl), (by simp only [sG, Nat.reduceEqDiff] <;> rfl), (by simp only [sG, Nat.reduceEqDiff, t11] <;> rfl), hr2, hk.trans hk2, by rw [← he]; exact zjg hi hj hlt⟩
        · have hw3 : IntKind.i64.wrap ((m : Int) - ((m - i : Nat) : Int)) = ((i : Nat) : Int) := by rw [z06 (by omega) (by omega)]; omega
          have hw4 : IntKind.i64.wrap ((m : Int) + ((j - m : Nat) : Int)) = ((j : Nat) : Int) := by rw [z06 (by omega) (by omega)]; omega
          have hw5 : IntKind.i64.wrap ((j : Int) - ((m - i : Nat) : Int)) = ((j - (m - i) : Nat) : Int) := by rw [z06 (by omega) (by omega)]; omega
          have hw6 : IntKind.i64.wrap (((j - m : Nat) : Int) - ((m - i : Nat) : Int)) = (((j - (m - i)) - m : Nat) : Int) := by rw [z06 (by omega) (by omega)]; omega
          repeat' (first | refine EvC.seq ?_ | refine EvC.scope ?_ | refine EvC.block ?_ | (refine EvC.skip ?_; try simp only [z02]) | (refine EvC.exit ?_) | (refine EvC.ret ?_; try simp only [z01, z00]) | (refine EvC.reg ?_; simp (config := { maxSteps := 2000000 }) (disch := first | omega | rfl) only [sB, Nat.reduceEqDiff, reduceCtorEq, zlp, t0, t2, t4, t10, t11, hd, gtn hlt, hw3, hw4, hw5]) | (refine EvC.condT ?_ ?_; simp (config := { maxSteps := 2000000 }) (disch := first | omega | rfl) only [sB, Nat.reduceEqDiff]; refine z03 ?_) | (refine EvC.condF ?_ ?_; simp (config := { maxSteps := 2000000 }) (disch := first | omega | rfl) only [sB, Nat.reduceEqDiff]; refine z03 ?_))
          refine (z3k hr' hn (by omega) (by omega) (by omega) hk.wf).mono ?_
          rintro v H2 ⟨hr2, hk2⟩
          repeat' (first | refine EvC.seq ?_ | refine EvC.scope ?_ | refine EvC.block ?_ | (refine EvC.skip ?_) | (refine EvC.exit ?_) | (refine EvC.ret ?_; try simp only [z01, z00]) | (refine EvC.reg ?_; simp (config := { maxSteps := 2000000 }) (disch := first | omega | rfl) only [sB, Nat.reduceEqDiff, t10, t11, hw6]))
          exact ⟨(j - (m - i)) - i, by omega, _, _, i, j - (m - i), _, rfl, rfl, hi, by omega, by omega, (by simp only [sG, reduceCtorEq, t0] <;> rfl), (by simp only [sG, Nat.reduceEqDiff, t2] <;> rfl), (by simp only [sG, Nat.reduceEqDiff, t4] <;> rfl), (by simp only [sG, Nat.reduceEqDiff, t10] <;> rfl), (by simp only [sG, Nat.reduceEqDiff] <;> rfl), hr2, hk.trans hk2, by rw [← he]; exact zhb hi hj (by omega)⟩
    · exact ⟨_, _, a, e, D, rfl, rfl, h1, h2, h3, (by simp only [sG, reduceCtorEq] <;> rfl), (by simp only [sG, Nat.reduceEqDiff, reduceCtorEq] <;> rfl), (by simp only [sG, Nat.reduceEqDiff, reduceCtorEq] <;> rfl), (by simp only [sG, Nat.reduceEqDiff, reduceCtorEq] <;> rfl), (by simp only [sG, Nat.reduceEqDiff, reduceCtorEq] <;> rfl), hr, HK.refl hw, rfl⟩
  · rintro st ⟨tm, H', i, D', rfl, hi, t0, t2, t4, t10, him, hmn, hr', hk, he⟩
    have hw3 : IntKind.i64.wrap ((m : Int) - ((m - i : Nat) : Int)) = ((i : Nat) : Int) := by rw [z06 (by omega) (by omega)]; omega
    repeat' (first | refine EvC.seq ?_ | refine EvC.scope ?_ | refine EvC.block ?_ | (refine EvC.skip ?_) | (refine EvC.exit ?_) | (refine EvC.ret ?_; try simp only [z01, z00]) | (refine EvC.reg ?_; simp (config := { maxSteps := 2000000 }) (disch := first | omega | rfl) only [sB, Nat.reduceEqDiff, zlp, t0, t2, t4, t10, hw3]))
    refine (z3k hr' hn (by omega) (by omega) (by omega) hk.wf).mono ?_
    rintro v H2 ⟨hr2, hk2⟩
    repeat' (first | refine EvC.seq ?_ | refine EvC.scope ?_ | refine EvC.block ?_ | (refine EvC.skip ?_) | (refine EvC.exit ?_) | (refine EvC.ret ?_; try simp only [z01, z00]))
    exact z0v rfl ⟨he ▸ hr2, hk.trans hk2⟩
set_option maxHeartbeats 4000000 in
theorem z5p {b n c a e : Nat} {D : Nat → El} {g : FuncId} {H : Heap} {G : El → Prop} {cmp : El → El → Int} (C : Cmps g H b G cmp) (hr : RowE H 26 b n D) (hn : n ≤ most) (hG : ∀ k, k < n → G (D k)) (h1 : a ≤ e) (h3 : e ≤ n) (hw : H.wf) :
    EvF Tryd.prog okT 111 [.slice (some ⟨b, 0, none⟩) n c, .int .i64 (a : Nat), .int .i64 (e : Nat), cvF g] H fun _ H' =>
      ∃ D', RowE H' 26 b n D' ∧ Mv G cmp a e D D' ∧ InO cmp a e D' ∧ HK (· = b) H H' := by
  have hms : most ≤ 1048576 := by simp [most]
  have hg := C.call
  refine EvF.enter rfl Tryd.func111 (by decide) rfl ?_
  have hw1 : IntKind.i64.wrap ((a : Int) + 1) = ((a + 1 : Nat) : Int) := by rw [z06 (by omega) (by omega)]; omega
  repeat' (first | refine EvC.seq ?_ | refine EvC.scope ?_ | refine EvC.block ?_ | (refine EvC.skip ?_) | (refine EvC.exit ?_) | (refine EvC.ret ?_; try simp only [z01, z00]) | (refine EvC.reg ?_; simp (config := { maxSteps := 2000000 }) (disch := first | omega | rfl) only [sB, initTm, Nat.reduceEqDiff, Nat.reduceAdd, reduceCtorEq, hw1]))
  refine EvC.loop (fun k st => ∃ tm H' i D', st = ⟨tm, [], H'⟩ ∧ k = e - i ∧ a + 1 ≤ i ∧ tm.get 0 = some (.slice (some ⟨b, 0, none⟩) n c) ∧ tm.get 1 = some (.int .i64 (a : Nat)) ∧ tm.get 2 = some (.int .i64 (e : Nat)) ∧ tm.get 3 = some (cvF g) ∧
    tm.get 8 = some (.int .i64 (i : Nat)) ∧ RowE H' 26 b n D' ∧ Mv G cmp a e D D' ∧ InO cmp a i D' ∧ HK (· = b) H H') ?_ (e - (a + 1)) _ ?_
  · rintro k st ⟨tm, H', i, D', rfl, rfl, hi, t0, t1, t2, t3, t8, hr', hm, ho, hk⟩
    by_cases hlt : i < e
    · (repeat refine EvC.seq ?_); refine EvC.reg ?_; simp (config := { maxSteps := 2000000 }) (disch := first | omega | rfl) only [sB, Nat.reduceEqDiff, t8, t2, decl hlt]
      (repeat refine EvC.seq ?_); refine EvC.condT (by simp (config := { maxSteps := 2000000 }) (disch := first | omega | rfl) only [sB, Nat.reduceEqDiff]) ?_; (try refine EvC.skip ?_); (try simp only [z02, z0a])
      refine EvC.seq ?_
      refine EvC.block ?_
      (repeat refine EvC.seq ?_); refine EvC.reg ?_; simp (config := { maxSteps := 2000000 }) (disch := first | omega | rfl) only [sB, Nat.reduceEqDiff, t8]
      refine EvC.meet (fun st => ∃ tm H' D', st = ⟨tm, [], H'⟩ ∧ tm.get 0 = some (.slice (some ⟨b, 0, none⟩) n c) ∧ tm.get 1 = some (.int .i64 (a : Nat)) ∧ tm.get 2 = some (.int .i64 (e : Nat)) ∧ tm.get 3 = some (cvF g) ∧
        tm.get 8 = some (.int .i64 (i : Nat)) ∧ RowE H' 26 b n D' ∧ Mv G cmp a e D D' ∧ InO cmp a (i + 1) D' ∧ HK (· = b) H H') ?_ ?_
      · refine EvC.block (EvC.loop (fun k st => ∃ tm H' j D', st = ⟨tm, [], H'⟩ ∧ k = j ∧ a ≤ j ∧ j ≤ i ∧ tm.get 0 = some (.slice (some ⟨b, 0, none⟩) n c) ∧ tm.get 1 = some (.int .i64 (a : Nat)) ∧ tm.get 2 = some (.int .i64 (e : Nat)) ∧ tm.get 3 = some (cvF g) ∧
          tm.get 8 = some (.int .i64 (i : Nat)) ∧ tm.get 9 = some (.int .i64 (j : Nat)) ∧ RowE H' 26 b n D' ∧ Mv G cmp a e D D' ∧ (∀ p q, a ≤ p → p < q → q ≤ i → p ≠ j → q ≠ j → cmp (D' p) (D' q) ≤ 0) ∧ (∀ q, j < q → q ≤ i → cmp (D' j) (D' q) ≤ 0) ∧ HK (· = b) H H') ?_ i _ ?_)
        · rintro k st ⟨tm, H', j, D', rfl, rfl, hj, hji, t0, t1, t2, t3, t8, t9, hr', hm, ho1, ho2, hk⟩
          by_cases hja : a < k
          · obtain ⟨j, rfl⟩ : ∃ j, k = j + 1 := ⟨k - 1, by omega⟩
            have hw2 : IntKind.i64.wrap (((j + 1 : Nat) : Int) - 1) = ((j : Nat) : Int) := by rw [z06 (by omega) (by omega)]; omega
            have k1 : j + 1 < n := by omega
            have k2 : j < n := by omega
            have l1 := hr'.load k1
            have l2 := hr'.load k2
            have hG' := hm.good (n := n) h3 hG
            have hb := hk.bump 17
            repeat' (first | refine EvC.seq ?_ | refine EvC.scope ?_ | refine EvC.block ?_ | (refine EvC.skip ?_) | (refine EvC.exit ?_) | (refine EvC.ret ?_; try simp only [z01, z00]) | (refine EvC.drw (id := 4) [([(0, 0), (1, 0), (2, 0), (3, 0), (4, 0), (5, 0), (6, 0), (7, 0), (8, 0), (9, 0), (10, 0), (11, 0), (12, 0), (13, 0)], some 14), ([(15, 1), (16, 1)], none)] ?_ ?_; kernel_rfl; simp (config := { maxSteps := 2000000 }) (disch := first | omega | rfl) only [sD, sB, Nat.reduceEqDiff, Nat.reduceAdd, reduceCtorEq, ia24, ld26, t0, t1, t3, t9, gtl hja, hw2, l1, l2, z2w, z21 hg, isAlloc, isRead, reduceCtorEq]))
            have gx := hG' _ k1
            have gy := hG' _ k2
            obtain ⟨cells0, hg0, -, -⟩ := hr'.row
            have hbl := hk.wf _ _ hg0
            refine (C.run _ _ _ gx gy hb).mono ?_
            rintro v H2 ⟨rfl, hx2⟩
            have hk2 := hb.hxs hx2
            have r2 := hr'.heap (H' := H2) (by rw [hx2.keep b (Nat.lt_add_right _ hbl)]; rfl)
            by_cases hc : cmp (D' (j + 1)) (D' j) < 0
            · have hdc : decide (cmp (D' (j + 1)) (D' j) < 0) = true := decide_eq_true hc
              have l1 := r2.load k1
              have l2 := r2.load k2
              obtain ⟨cells, hg2, hl, he⟩ := r2.row
              have hbl2 := hk2.wf _ _ hg2
              have le1 : (j + 1) * 6 + 6 ≤ cells.length := by have := mul6 k1; omega
              have le2 : j * 6 + 6 ≤ cells.length := by have := mul6 k2; omega
              have hsw := fun H2 h2 => RowE.swap (H := H') (b := b) (T := 26) hl he k1 k2 (by omega) H2 h2
              have ms := Mv.swap C.ord (a := a) (b := e) (j := j) (D := D') (by omega) (by omega) (fun k hk => hG' k (by omega)) hc
              rw [zjf] at hsw
              have o1 : ∀ p q, a ≤ p → p < q → q ≤ i → p ≠ j → q ≠ j → cmp (swF j (j + 1) D' p) (swF j (j + 1) D' q) ≤ 0 := fun p q p1 p2 p3 p4 p5 => by
                unfold swF
                rw [if_neg p4, if_neg p5]
                by_cases e1 : p = j + 1
                · rw [if_pos e1, if_neg (by omega)]; exact ho1 j q (by omega) (by omega) p3 (by omega) (by omega)
                · rw [if_neg e1]
                  by_cases e2 : q = j + 1
                  · rw [if_pos e2]; exact ho1 p j p1 (by omega) (by omega) e1 (by omega)
                  · rw [if_neg e2]; exact ho1 p q p1 p2 p3 e1 e2
              have o2 : ∀ q, j < q → q ≤ i → cmp (swF j (j + 1) D' j) (swF j (j + 1) D' q) ≤ 0 := fun q q1 q2 => by
                unfold swF
                rw [if_pos rfl, if_neg (by omega)]
                by_cases e2 : q = j + 1
                · rw [if_pos e2]; omega
                · rw [if_neg e2]; exact ho2 q (by omega) q2
              generalize hE1 : D' (j + 1) = E1 at *
              generalize hE2 : D' j = E2 at *
              have le3 : j * 6 + 6 ≤ (Hb.splice cells ((j + 1) * 6) E2.six).length := by rw [z0s (vs := E2.six) le1]; exact le2
              repeat' (first | refine EvC.seq ?_ | refine EvC.scope ?_ | refine EvC.block ?_ | (refine EvC.skip ?_; try simp only [z02]) | (refine EvC.exit ?_) | (refine EvC.ret ?_; try simp only [z01, z00]) | (refine EvC.reg ?_; simp (config := { maxSteps := 2000000 }) (disch := first | omega | rfl) only [sB, Nat.reduceEqDiff, t9, hw2]) | (refine EvC.drw (id := 6) [([(0, 0), (1, 0), (5, 0), (6, 0), (7, 0), (8, 0), (9, 0), (10, 0), (11, 0), (12, 0), (13, 0), (14, 0)], some 15), ([(2, 0), (3, 0), (4, 0), (16, 1)], some 17), ([], none)] ?_ ?_; kernel_rfl; simp (config := { maxSteps := 2000000 }) (disch := first | omega | rfl) only [sV, sD, sB, Nat.reduceEqDiff, Nat.reduceAdd, one, reduceCtorEq, ia24, ld26, st26, t0, t9, hw2, l1, l2, hg2, le1, le3, isAlloc, isRead, reduceCtorEq]) | (refine z0n ?_; simp (config := { maxSteps := 2000000 }) (disch := first | omega | rfl) only [sD, sB, Nat.reduceEqDiff, hdc, isAlloc, isRead]) | (refine EvC.condT ?_ ?_; simp (config := { maxSteps := 2000000 }) (disch := first | omega | rfl) only [sB, Nat.reduceEqDiff]; refine z03 ?_))
              exact ⟨j, by omega, _, _, j, _, rfl, rfl, by omega, by omega, (by simp only [sG, reduceCtorEq, t0] <;> rfl), (by simp only [sG, Nat.reduceEqDiff, t1] <;> rfl), (by simp only [sG, Nat.reduceEqDiff, t2] <;> rfl), (by simp only [sG, Nat.reduceEqDiff, t3] <;> rfl), (by simp only [sG, Nat.reduceEqDiff, t8] <;> rfl), (by simp only [sG, Nat.reduceEqDiff] <;> rfl), hsw _ (by rw [get_put, if_pos rfl]), hm.trans ms, o1, o2, hk2.two hbl2 _ _ _⟩
            · have hdc : decide (cmp (D' (j + 1)) (D' j) < 0) = false := decide_eq_false hc
              have hc' : cmp (D' j) (D' (j + 1)) ≤ 0 := by have := C.ord.anti _ _ gx gy; omega
              repeat' (first | refine EvC.seq ?_ | refine EvC.scope ?_ | refine EvC.block ?_ | (refine EvC.skip ?_) | (refine EvC.exit ?_; try simp only [sB, reduceCtorEq]) | (refine EvC.ret ?_; try simp only [z01, z00]) | (refine z0n ?_; simp (config := { maxSteps := 2000000 }) (disch := first | omega | rfl) only [sD, sB, Nat.reduceEqDiff, hdc, isAlloc, isRead]) | (refine EvC.condT ?_ ?_; simp (config := { maxSteps := 2000000 }) (disch := first | omega | rfl) only [sB, Nat.reduceEqDiff]; refine z03 ?_) | (refine EvC.condF ?_ ?_; simp (config := { maxSteps := 2000000 }) (disch := first | omega | rfl) only [sB, Nat.reduceEqDiff]; refine z03 ?_))
              exact ⟨_, _, D', rfl, (by simp only [sG, reduceCtorEq, t0] <;> rfl), (by simp only [sG, Nat.reduceEqDiff, t1] <;> rfl), (by simp only [sG, Nat.reduceEqDiff, t2] <;> rfl), (by simp only [sG, Nat.reduceEqDiff, t3] <;> rfl), (by simp only [sG, Nat.reduceEqDiff, t8] <;> rfl), r2, hm, fun p q p1 p2 p3 => by
                by_cases e1 : p = j + 1
                · subst e1; exact ho2 q p2 (by omega)
                · by_cases e2 : q = j + 1
                  · subst e2
                    by_cases e3 : p = j
                    · subst e3; exact hc'
                    · exact C.ord.le _ _ _ (hG' p (by omega)) gy gx (ho1 p j p1 (by omega) (by omega) e1 (by omega)) hc'
                  · exact ho1 p q p1 p2 (by omega) e1 e2, hk2⟩
          · repeat' (first | refine EvC.seq ?_ | refine EvC.scope ?_ | refine EvC.block ?_ | (refine EvC.skip ?_) | (refine EvC.exit ?_; try simp only [sB, reduceCtorEq]) | (refine EvC.ret ?_; try simp only [z01, z00]) | (refine EvC.drw (id := 4) [([(0, 0), (1, 0), (2, 0), (3, 0), (4, 0), (5, 0), (6, 0), (7, 0), (8, 0), (9, 0), (10, 0), (11, 0), (12, 0), (13, 0)], some 14), ([(15, 1), (16, 1)], none)] ?_ ?_; kernel_rfl; simp (config := { maxSteps := 2000000 }) (disch := first | omega | rfl) only [sD, sB, Nat.reduceEqDiff, Nat.reduceAdd, t1, t9, gtn hja, Bool.false_eq_true, isAlloc, isRead]) | (refine EvC.condT ?_ ?_; simp (config := { maxSteps := 2000000 }) (disch := first | omega | rfl) only [sB, Nat.reduceEqDiff]; refine z03 ?_) | (refine EvC.condF ?_ ?_; simp (config := { maxSteps := 2000000 }) (disch := first | omega | rfl) only [sB, Nat.reduceEqDiff]; refine z03 ?_))
            obtain rfl : k = a := by omega
            exact ⟨_, _, D', rfl, (by simp only [sG, reduceCtorEq, t0] <;> rfl), (by simp only [sG, Nat.reduceEqDiff, t1] <;> rfl), (by simp only [sG, Nat.reduceEqDiff, t2] <;> rfl), (by simp only [sG, Nat.reduceEqDiff, t3] <;> rfl), (by simp only [sG, Nat.reduceEqDiff, t8] <;> rfl), hr'.heap rfl, hm, fun p q p1 p2 p3 => by
              by_cases e1 : p = k
              · subst e1; exact ho2 q p2 (by omega)
              · exact ho1 p q p1 p2 (by omega) e1 (by omega), hk.bump _⟩
        · exact ⟨_, _, i, D', rfl, rfl, by omega, Nat.le_refl _, (by simp only [sG, reduceCtorEq, t0] <;> rfl), (by simp only [sG, Nat.reduceEqDiff, t1] <;> rfl), (by simp only [sG, Nat.reduceEqDiff, t2] <;> rfl), (by simp only [sG, Nat.reduceEqDiff, t3] <;> rfl), (by simp only [sG, Nat.reduceEqDiff, t8] <;> rfl), (by simp only [sG, Nat.reduceEqDiff] <;> rfl), hr', hm, fun p q p1 p2 p3 p4 p5 => ho p q p1 p2 (by omega), fun q q1 q2 => by omega, hk⟩
      · rintro st ⟨tm, H', D', rfl, t0, t1, t2, t3, t8, hr', hm, ho, hk⟩
        have hw2 : IntKind.i64.wrap ((i : Int) + 1) = ((i + 1 : Nat) : Int) := by rw [z06 (by omega) (by omega)]; omega
        try simp (config := { maxSteps := 2000000 }) (disch := first | omega | rfl) only [sA]
        repeat' (first | refine EvC.seq ?_ | refine EvC.scope ?_ | refine EvC.block ?_ | (refine EvC.skip ?_) | (refine EvC.exit ?_) | (refine EvC.ret ?_; try simp only [z01, z00]) | (refine EvC.reg ?_; simp (config := { maxSteps := 2000000 }) (disch := first | omega | rfl) only [sB, Nat.reduceEqDiff, t8, hw2]))
        exact ⟨e - (i + 1), by omega, _, _, i + 1, D', rfl, rfl, by omega, (by simp only [sG, reduceCtorEq, t0] <;> rfl), (by simp only [sG, Nat.reduceEqDiff, t1] <;> rfl), (by simp only [sG, Nat.reduceEqDiff, t2] <;> rfl), (by simp only [sG, Nat.reduceEqDiff, t3] <;> rfl), (by simp only [sG, Nat.reduceEqDiff] <;> rfl), hr', hm, ho, hk⟩
    · repeat' (first | refine EvC.seq ?_ | refine EvC.scope ?_ | refine EvC.block ?_ | (refine EvC.skip ?_) | (refine EvC.exit ?_; try simp only [sB]) | (refine EvC.ret ?_; try simp only [z01, z00]) | (refine EvC.reg ?_; simp (config := { maxSteps := 2000000 }) (disch := first | omega | rfl) only [sB, Nat.reduceEqDiff, t8, t2, decn hlt]) | (refine EvC.condT ?_ ?_; simp (config := { maxSteps := 2000000 }) (disch := first | omega | rfl) only [sB, Nat.reduceEqDiff]; refine z03 ?_) | (refine EvC.condF ?_ ?_; simp (config := { maxSteps := 2000000 }) (disch := first | omega | rfl) only [sB, Nat.reduceEqDiff]; refine z03 ?_))
      exact z0v rfl ⟨D', hr', hm, fun p q p1 p2 p3 => ho p q p1 p2 (by omega), hk⟩
  · exact ⟨_, _, a + 1, D, rfl, rfl, Nat.le_refl _, (by simp only [sG, reduceCtorEq] <;> rfl), (by simp only [sG, Nat.reduceEqDiff, reduceCtorEq] <;> rfl), (by simp only [sG, Nat.reduceEqDiff, reduceCtorEq] <;> rfl), (by simp only [sG, Nat.reduceEqDiff, reduceCtorEq] <;> rfl), (by simp only [sG, Nat.reduceEqDiff, reduceCtorEq] <;> rfl), hr, Mv.refl D, fun p q p1 p2 p3 => by omega, HK.refl hw⟩
end Go.Proofs.YtlllbkjiadcloaaDoor.hb
end

-- So4
section
namespace Go.Hb
open Go Go.RowKit
theorem z4z {P : Program} {H : Heap} {t : TypeId} {x y : Operand} {k' : IntKind} {a : Nat} : dBin P .shr t x y (.int .u64 (a : Int)) (.int k' 1) H = some (.val (.int .u64 ((a / 2 : Nat) : Int)) H) := by
  rw [bShr (by omega)]
  have : ((a : Int)).fdiv (2 ^ (min (1 : Int).toNat IntKind.u64.bits)) = ((a / 2 : Nat) : Int) := by
    rw [show (2 : Int) ^ (min (1 : Int).toNat IntKind.u64.bits) = 2 by rfl]
    rw [Int.fdiv_eq_ediv_of_nonneg _ (by omega)]; omega
  rw [this]
variable {α : Type} {G : α → Prop} {cmp : α → α → Int}
theorem ze2 {a e : Nat} {D : Nat → α} : rotF a a e D = D := by
  funext k; unfold rotF
  repeat' split
  all_goals first | (exfalso; omega) | (congr 1; omega) | rfl
theorem zb3 {a e : Nat} {D : Nat → α} : rotF a e e D = D := by
  funext k; unfold rotF
  repeat' split
  all_goals first | (exfalso; omega) | (congr 1; omega) | rfl
theorem zm9 {a k : Nat} {D : Nat → α} (h : a ≤ k) : swF k (k + 1) (rotF a (a + 1) (k + 1) D) = rotF a (a + 1) (k + 2) D := by
  funext i; unfold swF rotF
  repeat' split
  all_goals first | (exfalso; omega) | (congr 1; omega) | rfl
theorem zhd {m k : Nat} {D : Nat → α} (h : k + 1 ≤ m) : swF (k + 1) k (rotF (k + 1) m (m + 1) D) = rotF k m (m + 1) D := by
  funext i; unfold swF rotF
  repeat' split
  all_goals first | (exfalso; omega) | (congr 1; omega) | rfl
theorem InO.into (o : Ordr G cmp) {a i e : Nat} {D : Nat → α} (hi : a + 1 ≤ i) (hie : i ≤ e) (hs : InO cmp (a + 1) e D) (hg : ∀ k, k < e → G (D k)) (h1 : ∀ k, a + 1 ≤ k → k < i → cmp (D k) (D a) < 0) (h2 : ∀ k, i ≤ k → k < e → ¬ cmp (D k) (D a) < 0) :
    InO cmp a e (rotF a (a + 1) i D) := by
  have le2 : ∀ k, i ≤ k → k < e → cmp (D a) (D k) ≤ 0 := fun k k1 k2 => by have := o.anti _ _ (hg k k2) (hg a (by omega)); have := h2 k k1 k2; omega
  intro p q p1 p2 p3
  have hrot : ∀ k, rotF a (a + 1) i D k = if a ≤ k ∧ k + 1 < i then D (k + 1) else if k + 1 = i then D a else D k := fun k => by
    unfold rotF
    repeat' split
    all_goals first | (exfalso; omega) | (congr 1; omega) | rfl
  rw [hrot, hrot]
  by_cases e1 : a ≤ p ∧ p + 1 < i
  · rw [if_pos e1]
    by_cases e2 : a ≤ q ∧ q + 1 < i
    · rw [if_pos e2]; exact hs _ _ (by omega) (by omega) (by omega)
    · rw [if_neg e2]
      by_cases e3 : q + 1 = i
      · rw [if_pos e3]; exact Int.le_of_lt (h1 _ (by omega) (by omega))
      · rw [if_neg e3]; exact hs _ _ (by omega) (by omega) (by omega)
  · rw [if_neg e1, if_neg (by omega : ¬(a ≤ q ∧ q + 1 < i)), if_neg (by omega : ¬ q + 1 = i)]
    by_cases e3 : p + 1 = i
    · rw [if_pos e3]; exact le2 _ (by omega) (by omega)
    · rw [if_neg e3]; exact hs _ _ (by omega) (by omega) (by omega)
theorem InO.onto (o : Ordr G cmp) {a i m : Nat} {D : Nat → α} (hi : a ≤ i) (him : i ≤ m) (hs : InO cmp a m D) (hg : ∀ k, k < m + 1 → G (D k)) (h1 : ∀ k, a ≤ k → k < i → ¬ cmp (D m) (D k) < 0) (h2 : ∀ k, i ≤ k → k < m → cmp (D m) (D k) < 0) :
    InO cmp a (m + 1) (rotF i m (m + 1) D) := by
  have le1 : ∀ k, a ≤ k → k < i → cmp (D k) (D m) ≤ 0 := fun k k1 k2 => by have := o.anti _ _ (hg m (by omega)) (hg k (by omega)); have := h1 k k1 k2; omega
  intro p q p1 p2 p3
  have hrot : ∀ k, rotF i m (m + 1) D k = if k = i then D m else if i < k ∧ k < m + 1 then D (k - 1) else D k := fun k => by
    unfold rotF
    repeat' split
    all_goals first | (exfalso; omega) | (congr 1; omega) | rfl
  rw [hrot, hrot]
  by_cases e1 : p = i
  · rw [if_pos e1, if_neg (by omega), if_pos (by omega)]; exact Int.le_of_lt (h2 _ (by omega) (by omega))
  · rw [if_neg e1]
    by_cases e2 : i < p ∧ p < m + 1
    · rw [if_pos e2, if_neg (by omega), if_pos (by omega)]; exact hs _ _ (by omega) (by omega) (by omega)
    · rw [if_neg e2]
      by_cases e3 : q = i
      · rw [if_pos e3]; exact le1 _ (by omega) (by omega)
      · rw [if_neg e3]
        by_cases e4 : i < q ∧ q < m + 1
        · rw [if_pos e4]
          by_cases e5 : p = q - 1
          · exact absurd e5 (by omega)
          · exact hs _ _ (by omega) (by omega) (by omega)
        · rw [if_neg e4]; exact hs _ _ (by omega) (by omega) (by omega)
structure Mid (cmp : α → α → Int) (a m e : Nat) (D : Nat → α) (s : Nat) : Prop where
  s1 : a ≤ s
  s2 : s ≤ m
  s3 : s ≤ (a + e) / 2
  s4 : (a + e) / 2 + m - s ≤ e
  lt : ∀ i j, s ≤ i → i < m → m ≤ j → j < (a + e) / 2 + m - s → cmp (D j) (D i) < 0
  le : ∀ i j, a ≤ i → i < s → (a + e) / 2 + m - s ≤ j → j < e → cmp (D i) (D j) ≤ 0
theorem Mid.made (o : Ordr G cmp) {a m e s0 r0 s : Nat} {D : Nat → α} (h1 : a < m) (h2 : m < e) (hl : InO cmp a m D) (hr : InO cmp m e D) (hg : ∀ k, k < e → G (D k))
    (hsr : (m > (a + e) / 2 ∧ s0 = (a + e) / 2 + m - e ∧ r0 = (a + e) / 2) ∨ (m ≤ (a + e) / 2 ∧ s0 = a ∧ r0 = m)) (q1 : s0 ≤ s) (q2 : s ≤ r0)
    (h3 : ∀ k, s0 ≤ k → k < s → ¬ cmp (D ((a + e) / 2 + m - 1 - k)) (D k) < 0) (h4 : ∀ k, s ≤ k → k < r0 → cmp (D ((a + e) / 2 + m - 1 - k)) (D k) < 0) : Mid cmp a m e D s := by
  have le' : ∀ i j, i < e → j < e → (i = j ∨ cmp (D i) (D j) ≤ 0) → cmp (D i) (D j) ≤ 0 := fun i j i1 i2 h => by
    rcases h with h | h
    · subst h; rw [o.self (hg i i1)]; exact Int.le_refl _
    · exact h
  refine ⟨by omega, by omega, by omega, by omega, fun i j i1 i2 j1 j2 => ?_, fun i j i1 i2 j1 j2 => ?_⟩
  · have hs : s < r0 := by omega
    have hq := h4 s (Nat.le_refl _) hs
    have x1 : cmp (D s) (D i) ≤ 0 := le' _ _ (by omega) (by omega) (by
      by_cases e1 : s = i
      · exact .inl e1
      · exact .inr (hl _ _ (by omega) (by omega) i2))
    have x2 : cmp (D j) (D ((a + e) / 2 + m - 1 - s)) ≤ 0 := le' _ _ (by omega) (by omega) (by
      by_cases e1 : j = (a + e) / 2 + m - 1 - s
      · exact .inl e1
      · exact .inr (hr _ _ j1 (by omega) (by omega)))
    exact o.lt_le (hg _ (by omega)) (hg _ (by omega)) (hg _ (by omega)) (o.le_lt (hg _ (by omega)) (hg _ (by omega)) (hg _ (by omega)) x2 hq) x1
  · have hs : s0 < s := by omega
    have hq := h3 (s - 1) (by omega) (by omega)
    have hp : (a + e) / 2 + m - 1 - (s - 1) = (a + e) / 2 + m - s := by omega
    rw [hp] at hq
    have hq' : cmp (D (s - 1)) (D ((a + e) / 2 + m - s)) ≤ 0 := by have := o.anti (D ((a + e) / 2 + m - s)) (D (s - 1)) (hg _ (by omega)) (hg _ (by omega)); omega
    have x1 : cmp (D i) (D (s - 1)) ≤ 0 := le' _ _ (by omega) (by omega) (by
      by_cases e1 : i = s - 1
      · exact .inl e1
      · exact .inr (hl _ _ i1 (by omega) (by omega)))
    have x2 : cmp (D ((a + e) / 2 + m - s)) (D j) ≤ 0 := le' _ _ (by omega) (by omega) (by
      by_cases e1 : (a + e) / 2 + m - s = j
      · exact .inl e1
      · exact .inr (hr _ _ (by omega) (by omega) j2))
    exact o.le _ _ _ (hg _ (by omega)) (hg _ (by omega)) (hg _ (by omega)) (o.le _ _ _ (hg _ (by omega)) (hg _ (by omega)) (hg _ (by omega)) x1 hq') x2
theorem Mid.halves (o : Ordr G cmp) {a m e s : Nat} {D : Nat → α} (M : Mid cmp a m e D s) (h1 : a < m) (h2 : m < e) (hl : InO cmp a m D) (hr : InO cmp m e D) (hg : ∀ k, k < e → G (D k)) :
    Mv G cmp a e D (rotF s m ((a + e) / 2 + m - s) D) ∧ InO cmp a s (rotF s m ((a + e) / 2 + m - s) D) ∧ InO cmp s ((a + e) / 2) (rotF s m ((a + e) / 2 + m - s) D) ∧
    InO cmp ((a + e) / 2) ((a + e) / 2 + m - s) (rotF s m ((a + e) / 2 + m - s) D) ∧ InO cmp ((a + e) / 2 + m - s) e (rotF s m ((a + e) / 2 + m - s) D) ∧
    (∀ i j, a ≤ i → i < (a + e) / 2 → (a + e) / 2 ≤ j → j < e → cmp (rotF s m ((a + e) / 2 + m - s) D i) (rotF s m ((a + e) / 2 + m - s) D j) ≤ 0) := by
  obtain ⟨s1, s2, s3, s4, hlt, hle⟩ := M
  have r1 : ∀ k, k < s → rotF s m ((a + e) / 2 + m - s) D k = D k := fun k hk => by unfold rotF; rw [if_neg (by omega), if_neg (by omega)]
  have r2 : ∀ k, s ≤ k → k < (a + e) / 2 → rotF s m ((a + e) / 2 + m - s) D k = D (k + (m - s)) := fun k k1 k2 => by unfold rotF; rw [if_pos (by omega)]
  have r3 : ∀ k, (a + e) / 2 ≤ k → k < (a + e) / 2 + m - s → rotF s m ((a + e) / 2 + m - s) D k = D (k - ((a + e) / 2 + m - s - m)) := fun k k1 k2 => by unfold rotF; rw [if_neg (by omega), if_pos (by omega)]
  have r4 : ∀ k, (a + e) / 2 + m - s ≤ k → rotF s m ((a + e) / 2 + m - s) D k = D k := fun k k1 => by unfold rotF; rw [if_neg (by omega), if_neg (by omega)]
  refine ⟨(Mv.rot o s2 (by omega) (fun k hk => hg k (by omega)) hlt).wide s1 s4, fun p q p1 p2 p3 => ?_, fun p q p1 p2 p3 => ?_, fun p q p1 p2 p3 => ?_, fun p q p1 p2 p3 => ?_, fun i j i1 i2 j1 j2 => ?_⟩
  · rw [r1 _ (by omega), r1 _ p3]; exact hl _ _ p1 p2 (by omega)
  · rw [r2 _ p1 (by omega), r2 _ (by omega) p3]; exact hr _ _ (by omega) (by omega) (by omega)
  · rw [r3 _ p1 (by omega), r3 _ (by omega) p3]; exact hl _ _ (by omega) (by omega) (by omega)
  · rw [r4 _ p1, r4 _ (by omega)]; exact hr _ _ (by omega) p2 p3
  · by_cases c1 : i < s
    · rw [r1 _ c1]
      by_cases c2 : j < (a + e) / 2 + m - s
      · rw [r3 _ j1 c2]; exact hl _ _ i1 (by omega) (by omega)
      · rw [r4 _ (by omega)]; exact hle _ _ i1 c1 (by omega) j2
    · rw [r2 _ (by omega) i2]
      by_cases c2 : j < (a + e) / 2 + m - s
      · rw [r3 _ j1 c2]; exact Int.le_of_lt (hlt _ _ (by omega) (by omega) (by omega) (by omega))
      · rw [r4 _ (by omega)]; exact hr _ _ (by omega) (by omega) j2
theorem InO.both {a c e : Nat} {D D2 D3 : Nat → α} (_hac : a ≤ c) (_hce : c ≤ e) (m2 : Mv G cmp a c D D2) (o2 : InO cmp a c D2) (m3 : Mv G cmp c e D2 D3) (o3 : InO cmp c e D3)
    (hx : ∀ i j, a ≤ i → i < c → c ≤ j → j < e → cmp (D i) (D j) ≤ 0) : InO cmp a e D3 := by
  intro p q p1 p2 p3
  by_cases h1 : q < c
  · rw [m3.out p (by omega), m3.out q (by omega)]; exact o2 p q p1 p2 h1
  · by_cases h2 : c ≤ p
    · exact o3 p q h2 p2 p3
    · rw [m3.out p (by omega)]
      obtain ⟨j, j1, j2, e1⟩ := m3.inn q (by omega) p3
      obtain ⟨i, i1, i2, e2⟩ := m2.inn p p1 (by omega)
      rw [e1, e2, m2.out j (by omega)]
      exact hx i j i1 i2 j1 j2
end Go.Hb
end
