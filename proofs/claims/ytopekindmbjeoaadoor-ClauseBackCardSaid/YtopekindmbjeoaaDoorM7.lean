import Derived.Test.YtopekindmbjeoaaDoorM3
import Derived.Test.YtopekindmbjeoaaDoorM6
import Derived.Test.YtopekindmbjeoaaDoorM5
/- Lemmas on the program's own code, towards the laws of this folder, part 7. Conditions: as each lemma says. -/
section
namespace Go.Proofs.hq
open Go Go.RowKit Go.Hb
variable {ok : Ok}
set_option maxRecDepth 10000
attribute [local irreducible] LX LG EL STG SOP SGO SGD SAL SRD SEF SEG SLK SCK ES
abbrev sClause : ByteArray := ⟨#[99, 108, 97, 117, 115, 101]⟩
structure Cls where
 head : Tm
 body : Bdy
 vars : Nat
def zeroC : Cls := ⟨zeroT, zeroB, 0⟩
noncomputable def madeC (h r : Tm) : Cls := ⟨(plainL [h, r]).getD 0 zeroT, (readyS ((plainL [h, r]).getD 1 zeroT)).1, (uniq (occL (plainL [h, r]))).length⟩
noncomputable def readB (m : ByteArray) (h r : Tm) : ByteArray × Cls × Er :=
 if h.kind = 1 then (ByteArray.empty, zeroC, .ball (atmT sInst))
 else if isNum h then (ByteArray.empty, zeroC, .ball (typeT sCallable h))
 else match bodyF (SizeOf.sizeOf r + 1) r with
  | none => (ByteArray.empty, zeroC, .ball (typeT sCallable r))
  | some b => if 400 < cnt h 0 + cnt (toldB b) 0 then (ByteArray.empty, zeroC, .ball (resT sClause)) else (m, madeC h r, .ok)
noncomputable def readH (m : ByteArray) (h r : Tm) : ByteArray × Cls × Er :=
 match stripS m h with
 | (m2, h2, .ok) => readB m2 h2 r
 | (_, _, e) => (ByteArray.empty, zeroC, e)
noncomputable def headOf (t : Tm) : Tm := if isF t sNck then t.at 0 else t
noncomputable def restOf (t : Tm) : Tm := if isF t sNck then t.at 1 else atmT sTrue
noncomputable def readS (m : ByteArray) (t : Tm) : ByteArray × Cls × Er :=
 if checkS t ≠ 0 then (ByteArray.empty, zeroC, .num (checkS t))
 else match stripS m t with
  | (m1, t1, .ok) => readH m1 (headOf t1) (restOf t1)
  | (_, _, e) => (ByteArray.empty, zeroC, e)
abbrev fift (h : Tm) (ha : Option Addr) (hc : Nat) (k : Int) (t : Tm) (ta : Option Addr) (tc : Nat) (a : Option Addr) (n c : Nat) (v : Int) : List Value :=
 [.int .i64 h.kind, .string h.name, .string h.num, .int .u64 h.bits, .int .i64 h.var, .slice ha h.args.length hc, .int .i64 k, .int .i64 t.kind, .string t.name, .string t.num, .int .u64 t.bits, .int .i64 t.var, .slice ta t.args.length tc, .slice a n c, .int .i64 v]
abbrev zero15 : List Value := [.int .i64 0, .string ByteArray.empty, .string ByteArray.empty, .int .u64 0, .int .i64 0, .slice none 0 0, .int .i64 0, .int .i64 0, .string ByteArray.empty, .string ByteArray.empty, .int .u64 0, .int .i64 0, .slice none 0 0, .slice none 0 0, .int .i64 0]
def RepC (H : Heap) (S : Nat → Prop) (c : Cls) (cs : List Value) : Prop := ∃ ha hc ta tc a k, cs = fift c.head ha hc c.body.kind c.body.term ta tc a c.body.sub.length k c.vars ∧ RepS H S c.head (six c.head ha hc) ∧ OB H 30 25 S c.body (eightT c.body.kind c.body.term ta tc a c.body.sub.length k)
theorem RepC.zero {H : Heap} {S : Nat → Prop} : RepC H S zeroC zero15 := ⟨none, 0, none, 0, none, 0, rfl, RepS.leaf zdf rfl (Nat.zero_le _) fun _ => rfl, OB.nil (by decide)⟩
theorem RepC.to {H H2 : Heap} {S S2 : Nat → Prop} {c : Cls} {cs : List Value} (h : RepC H S c cs) (hk : ∀ n, S n → n < H.next → H2.get n = H.get n ∧ S2 n ∧ n < H2.next) (hs : ∀ n, S n → S2 n) : RepC H2 S2 c cs := by
 obtain ⟨ha, hc, ta, tc, a, k, h1, h2, h3⟩ := h
 exact ⟨ha, hc, ta, tc, a, k, h1, h2.to hk, h3.to (fun n hn hl => ⟨(hk n hn hl).1, (hk n hn hl).2.2⟩) hs⟩
theorem z1f {H : Heap} {p : Nat} {T : TypeId} {x0 x1 x2 x3 x4 x5 x6 x7 x8 x9 xa xb xc xd xe : Value} (h : H.get p = some (Blk.row [x0, x1, x2, x3, x4, x5, x6, x7, x8, x9, xa, xb, xc, xd, xe] T)) :
  H.load ⟨p, 0, none⟩ 6 = some [x0, x1, x2, x3, x4, x5] ∧ H.load ⟨p, 6, none⟩ 8 = some [x6, x7, x8, x9, xa, xb, xc, xd] ∧ H.load ⟨p, 14, none⟩ 1 = some [xe] ∧ H.load ⟨p, 0, none⟩ 15 = some [x0, x1, x2, x3, x4, x5, x6, x7, x8, x9, xa, xb, xc, xd, xe] := by
 refine ⟨?_, ?_, ?_, ?_⟩ <;> simp only [Heap.load, Heap.cells, h] <;> rfl
def ReadEnd (H : Heap) (R : ByteArray × Cls × Er) (v : Value) (H' : Heap) : Prop := HX H H' ∧ ∃ cs ev, v = .tuple ⟨[.string R.1, .agg ⟨cs⟩, ev]⟩ ∧ RepC H' (Rg H.next H'.next) R.2.1 cs ∧ RepES H' (Rg H.next H'.next) R.2.2 ev
theorem zmi : isIface Tryd.prog 32 = true := by kernel_rfl
theorem zfl {H : Heap} {x y : Operand} {T : TypeId} {v : Value} : dBin Tryd.prog .neq 32 x y (.iface T v) .nilIface H = some (.val (.bool true) H) := by
 simp only [dBin, dnil, zmi, nilEq, if_true]
theorem zmj {H : Heap} {x y : Operand} {T : TypeId} {v : Value} : dBin Tryd.prog .eql 32 x y (.iface T v) .nilIface H = some (.val (.bool false) H) := by
 simp only [dBin, dnil, zmi, nilEq, if_true]
theorem z8a {n : Nat} {H : Heap} : dBin Tryd.prog .neq 32 (.tmp n) (.const .nilIface) .nilIface .nilIface H = some (.val (.bool false) H) := by kernel_rfl
theorem zjo {n : Nat} {H : Heap} : dBin Tryd.prog .eql 32 (.tmp n) (.const .nilIface) .nilIface .nilIface H = some (.val (.bool true) H) := by kernel_rfl
theorem RepE.some {H : Heap} {e : Er} {v : Value} (h : RepE H e v) (he : e ≠ .ok) : ∃ T x, v = .iface T x := by
 cases e with
 | ok => exact absurd rfl he
 | num n => exact ⟨_, _, h⟩
 | ball t => obtain ⟨p, a, c, h, -⟩ := h; exact ⟨_, _, h⟩
theorem z66 : checkS (atmT sTrue) = 0 := by kernel_rfl
theorem z2h {H G : Heap} {R : ByteArray × Cls × Er} {e : Er} {ev : Value} {tm : Tr Value} {cs5 : List Value} {lo hi : Nat} (hR : R = (ByteArray.empty, zeroC, e)) (hx : HX H G) (g5 : G.get (H.next + 1) = some (.row cs5 48)) (t4 : tm.get 4 = some (.string ByteArray.empty)) (t5 : tm.get 5 = some (.pointer (some ⟨H.next + 1, 0, none⟩))) (t6 : tm.get 6 = some ev)
  (he : RepES G (Rg lo hi) e ev) (h1 : H.next + 2 ≤ lo) (h2 : hi ≤ G.next) : Ex.leave Tryd.prog okT Tryd.f14 (ReadEnd H R) .ret ⟨tm, [], G.put (H.next + 1) (some (.row zero15 48))⟩ := by
 have hz := hx.pt (i := H.next + 1) (by omega) g5 (some (.row zero15 48))
 subst hR
 refine z3x rfl t4 t5 (by simp only [sB, Nat.reduceAdd, cutC, ld48] <;> rfl) t6 ⟨hz, _, _, rfl, RepC.zero, he.to fun n hn hl => ?_⟩
 have := hn.1
 exact ⟨by rw [get_put, if_neg (by omega)], ⟨by omega, by rw [z07]; exact hl⟩, by rw [z07]; exact hl⟩
set_option maxHeartbeats 16000000 in
theorem zdh {m : ByteArray} {t : Tm} {cs : List Value} {H : Heap} (r0 : RepT H t cs) (hw : H.wf) : EvF Tryd.prog okT 14 [.string m, .agg ⟨cs⟩] H (ReadEnd H (readS m t)) := by
 obtain ⟨a, c, cells, rfl, -⟩ := r0.six
 refine EvF.enter rfl Tryd.func14 (by decide) rfl ?_
 (repeat refine EvC.seq ?_); refine EvC.reg ?_; simp (config := { maxSteps := 2000000 }) (disch := first | omega | rfl) only [sB, initTm, dBox, dAlloc, Value.cells, one, reduceCtorEq, zr48]
 obtain ⟨H2, e2, hx2, g3, g5, hn2, hw2⟩ := new2 hw (.row (six t a c) 25) (.row zero15 48)
 simp only [e2]
 clear e2
 (repeat refine EvC.seq ?_); refine EvC.reg ?_; simp (config := { maxSteps := 2000000 }) (disch := first | omega | rfl) only [sA, dAlloc, zr48]
 obtain ⟨H3, e3, hx3, g7, hn3, w3⟩ := new1 hw2 (.row zero15 48)
 simp only [e3]
 clear e3
 have g3 := hx3.get hw2 g3
 have g5 := hx3.get hw2 g5
 have hx := hx2.trans hx3
 have q3 := row6 g3
 (repeat refine EvC.seq ?_); refine EvC.reg ?_; simp (config := { maxSteps := 2000000 }) (disch := first | omega | rfl) only [sB, Nat.reduceEqDiff, reduceCtorEq, ld25, cl24, q3]
 refine (z25 t _ _ (r0.mono hx hw) w3).mono ?_
 rintro v H4 ⟨rfl, hx4⟩
 have g3 := hx4.get w3 g3
 have g5 := hx4.get w3 g5
 have g7 := hx4.get w3 g7
 have hx := hx.trans hx4
 have w4 := hx.wf
 have n4 := hx4.next
 have q3 := row6 g3
 have q7 := z1f g7
 try simp (config := { maxSteps := 2000000 }) (disch := first | omega | rfl) only []
 by_cases hc : checkS t = 0
 rotate_left
 ·have hR : readS m t = (ByteArray.empty, zeroC, .num (checkS t)) := by unfold readS; rw [if_pos hc]
  repeat' (first | refine EvC.seq ?_ | refine EvC.scope ?_ | refine EvC.block ?_ | (refine EvC.skip ?_) | (refine EvC.exit ?_) | (refine EvC.ret ?_; try simp only [z01, z00]) | (refine EvC.reg ?_; simp (config := { maxSteps := 2000000 }) (disch := first | omega | rfl) only [sB, Nat.reduceEqDiff, reduceCtorEq, z4k hc]) | (refine EvC.drw (id := 4) [([(0, 0), (3, 0)], some 4), ([(1, 0), (2, 0), (5, 1)], none)] ?_ ?_; kernel_rfl; simp (config := { maxSteps := 2000000 }) (disch := first | omega | rfl) only [sD, sB, Nat.reduceEqDiff, Nat.reduceAdd, one, reduceCtorEq, ld48, st48, q7, g5, z11, z84 zjf, isAlloc, isRead, reduceCtorEq, zep, Bool.and_true]) | (refine EvC.condT ?_ ?_; simp (config := { maxSteps := 2000000 }) (disch := first | omega | rfl) only [sB, Nat.reduceEqDiff, reduceCtorEq]; refine z04 ?_))
  exact z2h hR (hx.bump _) g5 (by simp only [sB, Nat.reduceEqDiff, reduceCtorEq] <;> rfl) (by simp only [sG, Nat.reduceEqDiff, reduceCtorEq] <;> rfl) (by simp only [sG, Nat.reduceEqDiff, reduceCtorEq] <;> rfl) (RepES.num (S := Rg (H.next + 2) (H.next + 2))) (Nat.le_refl _) (by show H.next + 2 ≤ H4.next + _; omega)
 (repeat refine EvC.seq ?_); refine EvC.reg ?_; simp (config := { maxSteps := 2000000 }) (disch := first | omega | rfl) only [sB, Nat.reduceEqDiff, reduceCtorEq, z1m hc]
 (repeat refine EvC.seq ?_); refine EvC.condF (by simp (config := { maxSteps := 2000000 }) (disch := first | omega | rfl) only [sB, Nat.reduceEqDiff, reduceCtorEq]) ?_; (try refine EvC.skip ?_); (try simp only [z02, z03])
 (repeat refine EvC.seq ?_); refine EvC.reg ?_; simp (config := { maxSteps := 2000000 }) (disch := first | omega | rfl) only [sB, Nat.reduceEqDiff, reduceCtorEq, ld25, cl38, q3]
 refine (zfj (m := m) r0 hx hw hc w4).mono ?_
 rintro v H5 ⟨hx5, a1, c1, ev1, rfl, r1, he1, hc1⟩
 have g3 := hx5.get w4 g3
 have g5 := hx5.get w4 g5
 have g7 := hx5.get w4 g7
 have hx5' := hx.trans hx5
 have n5 := hx5.next
 obtain ⟨⟨m1, t1, e1⟩, hS⟩ : ∃ R, stripS m t = R := ⟨_, rfl⟩
 rw [hS] at r1 he1 hc1 ⊢
 simp only at r1 he1 hc1
 try simp (config := { maxSteps := 2000000 }) (disch := first | omega | rfl) only [sB, Nat.reduceEqDiff, Nat.reduceAdd, one, reduceCtorEq, st25, g3]
 obtain ⟨H6, e6⟩ : ∃ H6, H5.put H.next (some (.row (six t1 a1 c1) 25)) = H6 := ⟨_, rfl⟩
 simp only [e6]
 have hx6 : HX H H6 := by rw [← e6]; exact hx5'.pt (i := H.next) (Nat.le_refl _) g3 _
 have n6 : H6.next = H5.next := by rw [← e6]; rfl
 have k6 : ∀ n, n ≠ H.next → H6.get n = H5.get n := fun n hn => by rw [← e6, get_put, if_neg hn]
 have g3 : H6.get H.next = some (.row (six t1 a1 c1) 25) := by rw [← e6, get_put, if_pos rfl]
 have g5 := (k6 _ (by omega)).trans g5
 have g7 := (k6 _ (by omega)).trans g7
 clear e6
 have w6 := hx6.wf
 have he1 : RepES H6 (Rg H4.next H5.next) e1 ev1 := he1.to fun n hn hl => ⟨k6 n (by have := hn.1; omega), hn, by omega⟩
 have q3 := row6 g3
 have q7 := z1f g7
 by_cases ho : e1 = .ok
 rotate_left
 ·have hR : readS m t = (ByteArray.empty, zeroC, e1) := by
   unfold readS
   rw [if_neg (fun h => h hc), hS]
   cases e1 with
   | ok => exact absurd rfl ho
   | num n => rfl
   | ball u => rfl
  obtain ⟨T0, x0, rfl⟩ := he1.rep.some ho
  repeat' (first | refine EvC.seq ?_ | refine EvC.scope ?_ | refine EvC.block ?_ | (refine EvC.skip ?_) | (refine EvC.exit ?_) | (refine EvC.ret ?_; try simp only [z01, z00]) | (refine EvC.reg ?_; simp (config := { maxSteps := 2000000 }) (disch := first | omega | rfl) only [sB, Nat.reduceEqDiff, reduceCtorEq, zfl]) | (refine EvC.drw (id := 7) [([(0, 0), (2, 0)], some 3), ([(1, 0), (4, 1)], none)] ?_ ?_; kernel_rfl; simp (config := { maxSteps := 2000000 }) (disch := first | omega | rfl) only [sD, sB, Nat.reduceEqDiff, Nat.reduceAdd, one, reduceCtorEq, ld48, st48, q7, g5, isAlloc, isRead, reduceCtorEq, Bool.and_true]) | (refine EvC.condT ?_ ?_; simp (config := { maxSteps := 2000000 }) (disch := first | omega | rfl) only [sB, Nat.reduceEqDiff, reduceCtorEq]; refine z04 ?_))
  exact z2h hR (hx6.bump _) g5 (by simp only [sB, Nat.reduceEqDiff, reduceCtorEq] <;> rfl) (by simp only [sG, Nat.reduceEqDiff, reduceCtorEq] <;> rfl) (by simp only [sG, Nat.reduceEqDiff, reduceCtorEq] <;> rfl) (RepES.to he1 fun n hn hl => ⟨rfl, hn, by show n < H6.next + _; omega⟩) (by omega) (by show _ ≤ H6.next + _; omega)
 subst ho
 obtain rfl : ev1 = .nilIface := he1.rep
 (repeat refine EvC.seq ?_); refine EvC.reg ?_; simp (config := { maxSteps := 2000000 }) (disch := first | omega | rfl) only [sB, Nat.reduceEqDiff, reduceCtorEq, z8a]
 (repeat refine EvC.seq ?_); refine EvC.condF (by simp (config := { maxSteps := 2000000 }) (disch := first | omega | rfl) only [sB, Nat.reduceEqDiff, reduceCtorEq]) ?_; (try refine EvC.skip ?_); (try simp only [z02, z03])
 (repeat refine EvC.seq ?_)
 refine EvC.meet (fun st => ∃ tm G p10 p11, st = ⟨tm, [], G⟩ ∧ tm.get 0 = some (.string m1) ∧ tm.get 3 = some (.pointer (some ⟨H.next, 0, none⟩)) ∧ tm.get 5 = some (.pointer (some ⟨H.next + 1, 0, none⟩)) ∧ tm.get 7 = some (.pointer (some ⟨H2.next, 0, none⟩)) ∧
  tm.get 10 = some (.pointer (some ⟨p10, 0, none⟩)) ∧ tm.get 11 = some (.pointer (some ⟨p11, 0, none⟩)) ∧ G.get p10 = some (.row (six t1 a1 c1) 25) ∧ G.get p11 = some (.row (six (atmT sTrue) none 0) 25) ∧ p10 ≠ p11 ∧ H6.next ≤ p10 ∧ H6.next ≤ p11 ∧ HX H6 G) ?_ ?_
 ·(repeat refine EvC.seq ?_); refine EvC.drw [([], some 1), ([(0, 0), (2, 0), (3, 0)], some 4), ([], some 5), ([], none)] (by kernel_rfl) ?_; simp (config := { maxSteps := 2000000 }) (disch := first | omega | rfl) only [sD, sA, Nat.reduceAdd, cl39]
  have hb := (HX.refl w6).bump 6
  refine (z3n (s := sTrue) hb.wf).mono ?_
  rintro v H7 ⟨rfl, hx7⟩
  have hx67 := hb.trans hx7
  have q37 := row6 (hx67.get w6 g3)
  have n7 : H6.next + 6 ≤ H7.next := hx7.next
  have w7 := hx7.wf
  repeat' (first | refine EvC.seq ?_ | refine EvC.scope ?_ | refine EvC.block ?_ | (refine EvC.skip ?_) | (refine EvC.exit ?_) | (refine EvC.ret ?_; try simp only [z01, z00]) | (refine z0u ?_; simp (config := { maxSteps := 2000000 }) (disch := first | omega | rfl) only [sV, sD, sB, dAlloc, Nat.reduceEqDiff, Nat.reduceAdd, one, reduceCtorEq, ld25, st25, zr25, q3, q37, neu, neu', isAlloc, isRead, dalloc, reduceCtorEq]))
  exact ⟨_, _, H6.next + 2, H6.next + 3, rfl, (by simp only [sG, reduceCtorEq] <;> rfl), (by simp only [sG, Nat.reduceEqDiff, reduceCtorEq] <;> rfl), (by simp only [sG, Nat.reduceEqDiff, reduceCtorEq] <;> rfl), (by simp only [sG, Nat.reduceEqDiff, reduceCtorEq] <;> rfl), (by simp only [sG, Nat.reduceEqDiff, reduceCtorEq] <;> rfl), (by simp only [sG, Nat.reduceEqDiff, reduceCtorEq] <;> rfl), by rw [get_put, if_neg (by omega), get_put, if_pos rfl], by rw [get_put, if_pos rfl], by omega, by omega, by omega,
   (((hx67.put (i := H6.next + 2) (by omega) (by omega) _).put (i := H6.next + 3) (by omega) (by show _ < H7.next; omega) _).put (i := H6.next + 2) (by omega) (by show _ < H7.next; omega) _).put (i := H6.next + 3) (by omega) (by show _ < H7.next; omega) _⟩
 ·rintro st ⟨tm, G, p10, p11, rfl, t0, t3, t5, t7, t10, t11, g10, g11, hne, h10, h11, hxG⟩
  simp only [z02]
  have wG := hxG.wf
  have g3 := hxG.get w6 g3
  have g5 := hxG.get w6 g5
  have g7 := hxG.get w6 g7
  have hxHG := hx6.trans hxG
  have q3 := row6 g3
  (repeat refine EvC.seq ?_); refine EvC.reg ?_; simp (config := { maxSteps := 2000000 }) (disch := first | omega | rfl) only [sB, ld25, cl40, t3, q3]
  refine (z6i (s := sNck) (r1.mono hxHG hw) wG).mono ?_
  rintro v H8 ⟨rfl, hx8⟩
  have g3 := hx8.get wG g3
  have g5 := hx8.get wG g5
  have g7 := hx8.get wG g7
  have g10 := hx8.get wG g10
  have g11 := hx8.get wG g11
  have hxH8 := hxHG.trans hx8
  have q3 := row6 g3
  have w8 := hx8.wf
  have n8 := hx8.next
  have nG := hxG.next
  try simp (config := { maxSteps := 2000000 }) (disch := first | omega | rfl) only []
  refine EvC.join (fun st => ∃ tm G ah ch ar cr, st = ⟨tm, [], G⟩ ∧ tm.get 0 = some (.string m1) ∧ tm.get 3 = some (.pointer (some ⟨H.next, 0, none⟩)) ∧ tm.get 5 = some (.pointer (some ⟨H.next + 1, 0, none⟩)) ∧ tm.get 7 = some (.pointer (some ⟨H2.next, 0, none⟩)) ∧
   tm.get 10 = some (.pointer (some ⟨p10, 0, none⟩)) ∧ tm.get 11 = some (.pointer (some ⟨p11, 0, none⟩)) ∧ G.get p10 = some (.row (six (headOf t1) ah ch) 25) ∧ G.get p11 = some (.row (six (restOf t1) ar cr) 25) ∧ 
   G.get (H.next + 1) = some (.row zero15 48) ∧ G.get H2.next = some (.row zero15 48) ∧ RepT H (headOf t1) (six (headOf t1) ah ch) ∧ RepT H (restOf t1) (six (restOf t1) ar cr) ∧ checkS (headOf t1) = 0 ∧ checkS (restOf t1) = 0 ∧ HX H G) ?_ ?_
  ·by_cases hn : isF t1 sNck
   ·obtain ⟨x, y, hxy⟩ : ∃ x y, t1.args = [x, y] := by
     match hl : t1.args, hn.2.2 with
     | [x, y], _ => exact ⟨x, y, rfl⟩
    have eh : headOf t1 = x := by unfold headOf; rw [if_pos hn]; unfold Tm.at; rw [hxy]; rfl
    have er : restOf t1 = y := by unfold restOf; rw [if_pos hn]; unfold Tm.at; rw [hxy]; rfl
    have x0 : t1.args[0]'(by rw [hxy]; simp) = x := by simp [hxy]
    have y1 : t1.args[1]'(by rw [hxy]; simp) = y := by simp [hxy]
    obtain ⟨a0, c0, cells0, hcs, -, -, -, -, -, rl⟩ := r1.six
    obtain ⟨-, -, -, -, -, rfl, rfl⟩ := za0 hcs
    obtain ⟨b, o, ax, cx, rfl, hld0, hr0⟩ := rl.el (i := 0) (by rw [hxy]; simp)
    obtain ⟨b', o', ay, cy, e2, hld1, hr1⟩ := rl.el (i := 1) (by rw [hxy]; simp)
    cases e2
    rw [x0] at hld0 hr0
    rw [y1] at hld1 hr1
    simp only [Nat.zero_mul, Nat.add_zero, Nat.one_mul] at hld0 hld1
    have hcx := z0y hc1 (u := x) (by rw [hxy]; simp)
    have hcy := z0y hc1 (u := y) (by rw [hxy]; simp)
    have l0 := hxH8.load hw hld0
    have l1 := hxH8.load hw hld1
    have hxl : t1.args.length = 2 := hn.2.2
    have nf1 : (p10 = p11) = False := eq_false hne
    have nf2 : (p11 = p10) = False := eq_false (Ne.symm hne)
    (repeat refine EvC.seq ?_); refine EvC.condT (by simp (config := { maxSteps := 2000000 }) (disch := first | omega | rfl) only [sB, Nat.reduceEqDiff, decide_eq_true hn]) ?_; (try refine EvC.skip ?_); (try simp only [z02, z03])
    have lb := za5 hw hld0
    have n56 := hx6.next
    have nf3 : (H.next = p10) = False := by simp; omega
    have nf4 : (b = p10) = False := by simp; omega
    (repeat refine EvC.seq ?_); refine EvC.drw [([(0, 0), (1, 0), (2, 0), (3, 0)], some 8), ([(4, 0), (5, 0), (6, 0), (7, 0)], some 9), ([], none)] (by kernel_rfl) ?_; simp (config := { maxSteps := 2000000 }) (disch := first | omega | rfl) only [sV, sD, sB, Nat.reduceEqDiff, Nat.reduceAdd, one, reduceCtorEq, cutC, Int.reduceToNat, ld25, st25, z0v, ld23, isAlloc, isRead, reduceCtorEq, t3, t10, t11, q3, g10, g11, hxl, l0, l1, iz23, Nat.zero_mul, Nat.one_mul, nf2, nf3, nf4]
    rw [eh, er]
    have hz := ((hxH8.bump 10).pt (i := p10) (by omega) (show Heap.get ⟨H8.next + 10, H8.t⟩ p10 = _ from g10) (some (.row (six x ax cx) 25))).pt (i := p11) (by omega) (by rw [get_put, if_neg (Ne.symm hne)]; exact g11) (some (.row (six y ay cy) 25))
    exact ⟨_, _, ax, cx, ay, cy, rfl, (by simp only [sG, reduceCtorEq, t0] <;> rfl), (by simp only [sG, Nat.reduceEqDiff, t3] <;> rfl), (by simp only [sG, Nat.reduceEqDiff, t5] <;> rfl), (by simp only [sG, Nat.reduceEqDiff, t7] <;> rfl), (by simp only [sG, Nat.reduceEqDiff, t10] <;> rfl), (by simp only [sG, Nat.reduceEqDiff, t11] <;> rfl), by rw [get_put, if_neg hne, get_put, if_pos rfl], by rw [get_put, if_pos rfl], by rw [get_put, if_neg (by omega), get_put, if_neg (by omega)]; exact g5, by rw [get_put, if_neg (by omega), get_put, if_neg (by omega)]; exact g7, hr0, hr1, hcx, hcy, hz⟩
   ·have eh : headOf t1 = t1 := by unfold headOf; rw [if_neg hn]
    have er : restOf t1 = atmT sTrue := by unfold restOf; rw [if_neg hn]
    rw [eh, er]
    (repeat refine EvC.seq ?_); refine EvC.condF (by simp (config := { maxSteps := 2000000 }) (disch := first | omega | rfl) only [sB, Nat.reduceEqDiff, decide_eq_false hn]) ?_; (try refine EvC.skip ?_); (try simp only [z02, z03])
    exact ⟨_, _, a1, c1, none, 0, rfl, (by simp only [sG, reduceCtorEq, t0] <;> rfl), (by simp only [sG, Nat.reduceEqDiff, t3] <;> rfl), (by simp only [sG, Nat.reduceEqDiff, t5] <;> rfl), (by simp only [sG, Nat.reduceEqDiff, t7] <;> rfl), (by simp only [sG, Nat.reduceEqDiff, t10] <;> rfl), (by simp only [sG, Nat.reduceEqDiff, t11] <;> rfl), g10, g11, g5, g7, r1, (z3o (S := fun _ => False) (by decide)).rep, hc1, z66, hxH8⟩
  ·rintro st ⟨tm, G, ah, ch, ar, cr, rfl, t0, t3, t5, t7, t10, t11, g10, g11, g5, g7, rh, rr, hch, hcr, hxG⟩
   simp only [z02]
   have hR1 : readS m t = readH m1 (headOf t1) (restOf t1) := by
    unfold readS
    rw [if_neg (fun h => h hc), hS]
   rw [hR1]
   generalize headOf t1 = h at *
   generalize restOf t1 = r at *
   have wG := hxG.wf
   have q10 := row6 g10
   (repeat refine EvC.seq ?_); refine EvC.reg ?_; simp (config := { maxSteps := 2000000 }) (disch := first | omega | rfl) only [sB, Nat.reduceEqDiff, ld25, cl38, t0, t10, q10]
   refine (zfj (m := m1) rh hxG hw hch wG).mono ?_
   rintro v H9 ⟨hx9, a2, c2, ev2, rfl, r2, he2, hc2⟩
   have lp := wG _ _ g10
   have lq := wG _ _ g11
   have l7 := wG _ _ g7
   have n9 := hx9.next
   have g10 := hx9.get wG g10
   have g11 := hx9.get wG g11
   have g5 := hx9.get wG g5
   have g7 := hx9.get wG g7
   have hx9' := hxG.trans hx9
   obtain ⟨⟨m2, t2, e2⟩, hS2⟩ : ∃ R, stripS m1 h = R := ⟨_, rfl⟩
   rw [hS2] at r2 he2 hc2 ⊢
   simp only at r2 he2 hc2
   have b10 : H.next + 3 ≤ p10 := by omega
   have b11 : H.next + 3 ≤ p11 := by omega
   try simp (config := { maxSteps := 2000000 }) (disch := first | omega | rfl) only [sB, Nat.reduceEqDiff, Nat.reduceAdd, one, reduceCtorEq, st25, t10, g10]
   obtain ⟨H10, e10⟩ : ∃ H10, H9.put p10 (some (.row (six t2 a2 c2) 25)) = H10 := ⟨_, rfl⟩
   simp only [e10]
   have hx10 : HX H H10 := by rw [← e10]; exact hx9'.pt (i := p10) (by omega) g10 _
   have n10 : H10.next = H9.next := by rw [← e10]; rfl
   have k10 : ∀ n, n ≠ p10 → H10.get n = H9.get n := fun n hn => by rw [← e10, get_put, if_neg hn]
   have g10 : H10.get p10 = some (.row (six t2 a2 c2) 25) := by rw [← e10, get_put, if_pos rfl]
   have g5 := (k10 _ (by omega)).trans g5
   have g7 := (k10 _ (by omega)).trans g7
   have g11 := (k10 _ (Ne.symm hne)).trans g11
   clear e10
   have w10 := hx10.wf
   have he2 : RepES H10 (Rg G.next H9.next) e2 ev2 := he2.to fun n hn hl => ⟨k10 n (by have := hn.1; omega), hn, by omega⟩
   have q10 := row6 g10
   have q11 := row6 g11
   have q7 := z1f g7
   have dG : H.next + 2 ≤ G.next := by omega
   clear g3 q3
   by_cases ho2 : e2 = .ok
   rotate_left
   ·have hR : readH m1 h r = (ByteArray.empty, zeroC, e2) := by
     unfold readH
     rw [hS2]
     cases e2 with
     | ok => exact absurd rfl ho2
     | num n => rfl
     | ball u => rfl
    obtain ⟨T0, x0, rfl⟩ := he2.rep.some ho2
    repeat' (first | refine EvC.seq ?_ | refine EvC.scope ?_ | refine EvC.block ?_ | (refine EvC.skip ?_) | (refine EvC.exit ?_) | (refine EvC.ret ?_; try simp only [z01, z00]) | (refine EvC.reg ?_; simp (config := { maxSteps := 2000000 }) (disch := first | omega | rfl) only [sB, Nat.reduceEqDiff, reduceCtorEq, zfl]) | (refine EvC.drw (id := 13) [([(0, 0), (2, 0)], some 3), ([(1, 0), (4, 1)], none)] ?_ ?_; kernel_rfl; simp (config := { maxSteps := 2000000 }) (disch := first | omega | rfl) only [sD, sB, Nat.reduceEqDiff, Nat.reduceAdd, one, reduceCtorEq, ld48, st48, t5, t7, q7, g5, isAlloc, isRead, reduceCtorEq, Bool.and_true]) | (refine EvC.condT ?_ ?_; simp (config := { maxSteps := 2000000 }) (disch := first | omega | rfl) only [sB, Nat.reduceEqDiff, reduceCtorEq]; refine z04 ?_))
    exact z2h hR (hx10.bump _) g5 (by simp only [sB, Nat.reduceEqDiff, reduceCtorEq] <;> rfl) (by simp only [sG, Nat.reduceEqDiff, reduceCtorEq, t5] <;> rfl) (by simp only [sG, Nat.reduceEqDiff, reduceCtorEq] <;> rfl) (RepES.to he2 fun n hn hl => ⟨rfl, hn, by show n < H10.next + _; omega⟩) dG (by show _ ≤ H10.next + _; omega)
   subst ho2
   obtain rfl : ev2 = .nilIface := he2.rep
   have hR2 : readH m1 h r = readB m2 t2 r := by unfold readH; rw [hS2]
   rw [hR2]
   (repeat refine EvC.seq ?_); refine EvC.reg ?_; simp (config := { maxSteps := 2000000 }) (disch := first | omega | rfl) only [sB, Nat.reduceEqDiff, reduceCtorEq, z8a]
   (repeat refine EvC.seq ?_); refine EvC.condF (by simp (config := { maxSteps := 2000000 }) (disch := first | omega | rfl) only [sB, Nat.reduceEqDiff, reduceCtorEq]) ?_; (try refine EvC.skip ?_); (try simp only [z02, z03])
   (repeat refine EvC.seq ?_); refine EvC.reg ?_; simp (config := { maxSteps := 2000000 }) (disch := first | omega | rfl) only [sB, Nat.reduceEqDiff, reduceCtorEq, z0m, ld3, t10, q10]
   (repeat refine EvC.seq ?_)
   refine EvC.join (fun st => ∃ tm', st = ⟨tm', [], H10⟩ ∧ tm'.get 0 = some (.string m2) ∧ tm'.get 5 = some (.pointer (some ⟨H.next + 1, 0, none⟩)) ∧ tm'.get 7 = some (.pointer (some ⟨H2.next, 0, none⟩)) ∧
    tm'.get 10 = some (.pointer (some ⟨p10, 0, none⟩)) ∧ tm'.get 11 = some (.pointer (some ⟨p11, 0, none⟩)) ∧ t2.kind ≠ 1 ∧ ¬ isNum t2) ?_ ?_
   ·refine EvC.block ?_
    by_cases k1 : t2.kind = 1
    ·have hR : readB m2 t2 r = (ByteArray.empty, zeroC, .ball (atmT sInst)) := by unfold readB; rw [if_pos k1]
     (repeat refine EvC.seq ?_); refine EvC.reg ?_; simp (config := { maxSteps := 2000000 }) (disch := first | omega | rfl) only [sB, Nat.reduceEqDiff, reduceCtorEq, z0r k1]
     (repeat refine EvC.seq ?_); refine EvC.condT (by simp (config := { maxSteps := 2000000 }) (disch := first | omega | rfl) only [sB, Nat.reduceEqDiff, reduceCtorEq]) ?_; (try refine EvC.skip ?_); (try simp only [z02, z03])
     (repeat refine EvC.seq ?_); refine EvC.drw [([], some 1), ([], some 2), ([(0, 0), (3, 2)], some 4), ([(5, 3)], none)] (by kernel_rfl) ?_; simp (config := { maxSteps := 2000000 }) (disch := first | omega | rfl) only [sD, sA, Nat.reduceAdd, cl39]
     have hb := (HX.refl w10).bump 6
     refine (z3n hb.wf).mono ?_
     rintro v H11 ⟨rfl, hx11⟩
     have w11 := hx11.wf
     have q711 := z1f ((hb.trans hx11).get w10 g7)
     repeat' (first | refine EvC.seq ?_ | refine EvC.scope ?_ | refine EvC.block ?_ | (refine EvC.skip ?_) | (refine EvC.exit ?_) | (refine EvC.ret ?_; try simp only [z01, z00]) | (refine z0u ?_; simp (config := { maxSteps := 2000000 }) (disch := first | omega | rfl) only [sD, sB, Nat.reduceEqDiff, reduceCtorEq, cl41, reduceCtorEq]))
     refine (z6q (S := fun _ => False) (z3o (by decide)) w11 (fun _ h => h.elim)).mono ?_
     rintro v H12 ⟨hx12, he12⟩
     have hx02 := (hb.trans hx11).trans hx12
     have q712 := z1f (hx02.get w10 g7)
     have g5 := hx02.get w10 g5
     repeat' (first | refine EvC.seq ?_ | refine EvC.scope ?_ | refine EvC.block ?_ | (refine EvC.skip ?_) | (refine EvC.exit ?_) | (refine EvC.ret ?_; try simp only [z01, z00]) | (refine z0u ?_; simp (config := { maxSteps := 2000000 }) (disch := first | omega | rfl) only [sV, sD, sB, Nat.reduceEqDiff, Nat.reduceAdd, one, reduceCtorEq, ld48, st48, t5, t7, q7, q711, q712, g5, isAlloc, isRead, reduceCtorEq]))
     have n11 : H10.next + 6 ≤ H11.next := hx11.next
     exact z2h (lo := H11.next) (hi := H12.next) hR (hx10.trans hx02) g5 (by simp only [sB, Nat.reduceEqDiff, reduceCtorEq] <;> rfl) (by simp only [sG, Nat.reduceEqDiff, reduceCtorEq, t5] <;> rfl) (by simp only [sG, Nat.reduceEqDiff, reduceCtorEq] <;> rfl) (he12.to fun n hn hl => ⟨rfl, hn.resolve_left (fun h => h), hl⟩) (by omega) (Nat.le_refl _)
    by_cases k3 : isNum t2
    ·have hR : readB m2 t2 r = (ByteArray.empty, zeroC, .ball (typeT sCallable t2)) := by unfold readB; rw [if_neg k1, if_pos k3]
     (repeat refine EvC.seq ?_); refine EvC.reg ?_; simp (config := { maxSteps := 2000000 }) (disch := first | omega | rfl) only [sB, Nat.reduceEqDiff, reduceCtorEq, z0t k1]
     (repeat refine EvC.seq ?_); refine EvC.condF (by simp (config := { maxSteps := 2000000 }) (disch := first | omega | rfl) only [sB, Nat.reduceEqDiff, reduceCtorEq]) ?_; (try refine EvC.skip ?_); (try simp only [z02, z03])
     by_cases k33 : t2.kind = 3
     ·(repeat refine EvC.seq ?_); refine EvC.reg ?_; simp (config := { maxSteps := 2000000 }) (disch := first | omega | rfl) only [sB, Nat.reduceEqDiff, reduceCtorEq, z0r k33]
      (repeat refine EvC.seq ?_); refine EvC.condT (by simp (config := { maxSteps := 2000000 }) (disch := first | omega | rfl) only [sB, Nat.reduceEqDiff, reduceCtorEq]) ?_; (try refine EvC.skip ?_); (try simp only [z02, z03])
      (repeat refine EvC.seq ?_); refine EvC.condT (by simp (config := { maxSteps := 2000000 }) (disch := first | omega | rfl) only [sB, Nat.reduceEqDiff, reduceCtorEq]) ?_; (try refine EvC.skip ?_); (try simp only [z02, z03])
      (repeat refine EvC.seq ?_); refine EvC.drw [([(1, 0)], some 2), ([(0, 0), (3, 1)], some 4), ([(5, 2)], none)] (by kernel_rfl) ?_; simp (config := { maxSteps := 2000000 }) (disch := first | omega | rfl) only [sD, sB, Nat.reduceEqDiff, Nat.reduceAdd, reduceCtorEq, ld25, cl26, isAlloc, isRead, reduceCtorEq, t10, q10]
      have hb := (HX.refl w10).bump 6
      refine (z5p (s := sCallable) (by decide) ((r2.mono hx10 hw).mono hb w10) hc2 hb.wf).mono ?_
      rintro v H12 ⟨hx12, he12⟩
      have hx02 := hb.trans hx12
      have q712 := z1f (hx02.get w10 g7)
      have g5 := hx02.get w10 g5
      repeat' (first | refine EvC.seq ?_ | refine EvC.scope ?_ | refine EvC.block ?_ | (refine EvC.skip ?_) | (refine EvC.exit ?_) | (refine EvC.ret ?_; try simp only [z01, z00]) | (refine z0u ?_; simp (config := { maxSteps := 2000000 }) (disch := first | omega | rfl) only [sV, sD, sB, Nat.reduceEqDiff, Nat.reduceAdd, one, reduceCtorEq, ld48, st48, t5, t7, q7, q712, g5, isAlloc, isRead, reduceCtorEq]))
      have n11 : H10.next + 6 ≤ H12.next := hx12.next
      exact z2h (lo := H10.next + 6) (hi := H12.next) hR (hx10.trans hx02) g5 (by simp only [sB, Nat.reduceEqDiff, reduceCtorEq] <;> rfl) (by simp only [sG, Nat.reduceEqDiff, reduceCtorEq, t5] <;> rfl) (by simp only [sG, Nat.reduceEqDiff, reduceCtorEq] <;> rfl) (he12.to fun n hn hl => ⟨rfl, hn, hl⟩) (by omega) (Nat.le_refl _)
     ·have k44 : t2.kind = 4 := k3.resolve_left k33
      (repeat refine EvC.seq ?_); refine EvC.reg ?_; simp (config := { maxSteps := 2000000 }) (disch := first | omega | rfl) only [sB, Nat.reduceEqDiff, reduceCtorEq, z0t k33]
      (repeat refine EvC.seq ?_); refine EvC.condF (by simp (config := { maxSteps := 2000000 }) (disch := first | omega | rfl) only [sB, Nat.reduceEqDiff, reduceCtorEq]) ?_; (try refine EvC.skip ?_); (try simp only [z02, z03])
      (repeat refine EvC.seq ?_); refine EvC.reg ?_; simp (config := { maxSteps := 2000000 }) (disch := first | omega | rfl) only [sB, Nat.reduceEqDiff, reduceCtorEq, z0r k44]
      (repeat refine EvC.seq ?_); refine EvC.condT (by simp (config := { maxSteps := 2000000 }) (disch := first | omega | rfl) only [sB, Nat.reduceEqDiff, reduceCtorEq]) ?_; (try refine EvC.skip ?_); (try simp only [z02, z03])
      (repeat refine EvC.seq ?_); refine EvC.drw [([(1, 0)], some 2), ([(0, 0), (3, 1)], some 4), ([(5, 2)], none)] (by kernel_rfl) ?_; simp (config := { maxSteps := 2000000 }) (disch := first | omega | rfl) only [sD, sB, Nat.reduceEqDiff, Nat.reduceAdd, reduceCtorEq, ld25, cl26, isAlloc, isRead, reduceCtorEq, t10, q10]
      have hb := (HX.refl w10).bump 6
      refine (z5p (s := sCallable) (by decide) ((r2.mono hx10 hw).mono hb w10) hc2 hb.wf).mono ?_
      rintro v H12 ⟨hx12, he12⟩
      have hx02 := hb.trans hx12
      have q712 := z1f (hx02.get w10 g7)
      have g5 := hx02.get w10 g5
      repeat' (first | refine EvC.seq ?_ | refine EvC.scope ?_ | refine EvC.block ?_ | (refine EvC.skip ?_) | (refine EvC.exit ?_) | (refine EvC.ret ?_; try simp only [z01, z00]) | (refine z0u ?_; simp (config := { maxSteps := 2000000 }) (disch := first | omega | rfl) only [sV, sD, sB, Nat.reduceEqDiff, Nat.reduceAdd, one, reduceCtorEq, ld48, st48, t5, t7, q7, q712, g5, isAlloc, isRead, reduceCtorEq]))
      have n11 : H10.next + 6 ≤ H12.next := hx12.next
      exact z2h (lo := H10.next + 6) (hi := H12.next) hR (hx10.trans hx02) g5 (by simp only [sB, Nat.reduceEqDiff, reduceCtorEq] <;> rfl) (by simp only [sG, Nat.reduceEqDiff, reduceCtorEq, t5] <;> rfl) (by simp only [sG, Nat.reduceEqDiff, reduceCtorEq] <;> rfl) (he12.to fun n hn hl => ⟨rfl, hn, hl⟩) (by omega) (Nat.le_refl _)
    ·have k33 : t2.kind ≠ 3 := fun e => k3 (.inl e)
     have k44 : t2.kind ≠ 4 := fun e => k3 (.inr e)
     repeat' (first | refine EvC.seq ?_ | refine EvC.scope ?_ | refine EvC.block ?_ | (refine EvC.skip ?_; try simp only [sA]) | (refine EvC.exit ?_) | (refine EvC.ret ?_; try simp only [z01, z00]) | (refine EvC.reg ?_; simp (config := { maxSteps := 2000000 }) (disch := first | omega | rfl) only [sB, Nat.reduceEqDiff, reduceCtorEq, z0t k1, z0t k33, z0t k44]) | (refine EvC.condT ?_ ?_; simp (config := { maxSteps := 2000000 }) (disch := first | omega | rfl) only [sB, Nat.reduceEqDiff, reduceCtorEq]; refine z04 ?_) | (refine EvC.condF ?_ ?_; simp (config := { maxSteps := 2000000 }) (disch := first | omega | rfl) only [sB, Nat.reduceEqDiff, reduceCtorEq]; refine z04 ?_))
     exact ⟨_, rfl, (by simp only [sG, reduceCtorEq] <;> rfl), (by simp only [sG, Nat.reduceEqDiff, reduceCtorEq, t5] <;> rfl), (by simp only [sG, Nat.reduceEqDiff, reduceCtorEq, t7] <;> rfl), (by simp only [sG, Nat.reduceEqDiff, reduceCtorEq, t10] <;> rfl), (by simp only [sG, Nat.reduceEqDiff, reduceCtorEq, t11] <;> rfl), k1, k3⟩
   ·rintro st ⟨tm', rfl, t0, t5, t7, t10, t11, k1, k3⟩
    simp only [z02]
    have hR3 : readB m2 t2 r = match bodyF (SizeOf.sizeOf r + 1) r with
      | none => (ByteArray.empty, zeroC, .ball (typeT sCallable r))
      | some b => if 400 < cnt t2 0 + cnt (toldB b) 0 then (ByteArray.empty, zeroC, .ball (resT sClause)) else (m2, madeC t2 r, .ok) := by
     unfold readB
     rw [if_neg k1, if_neg k3]
    (repeat refine EvC.seq ?_); refine EvC.reg ?_; simp (config := { maxSteps := 2000000 }) (disch := first | omega | rfl) only [sB, Nat.reduceEqDiff, ld25, cl7, t11, q11]
    refine (z40 (rr.mono hx10 hw) w10).mono ?_
    rintro v H11 ⟨hx11, out, ev, rfl, hob, hev⟩
    obtain ⟨ta, tc, sa, sc, rfl⟩ := hob.rep.eight
    have w11 := hx11.wf
    have n11 := hx11.next
    try simp (config := { maxSteps := 2000000 }) (disch := first | omega | rfl) only [sB, dAlloc, Nat.reduceEqDiff, Nat.reduceAdd, one, zr30, st30]
    obtain ⟨H12, e12, hx12, g12, hn12, w12⟩ := z0l w11 (.row zero8 30) (.row (eightT (readyS r).1.kind (readyS r).1.term ta tc sa (readyS r).1.sub.length sc) 30)
    simp only [e12]
    clear e12
    have hx012 := hx11.trans hx12
    have hxH12 := hx10.trans hx012
    have g10 := hx012.get w10 g10
    have g11 := hx012.get w10 g11
    have g5 := hx012.get w10 g5
    have g7 := hx012.get w10 g7
    have q10 := row6 g10
    have q11 := row6 g11
    have q12 := row8 g12
    have q7 := z1f g7
    have d12 : H.next + 2 ≤ H12.next := by have := hx012.next; omega
    have hev : RepES H12 (Rg H10.next H11.next) (readyS r).2 ev := hev.to fun n hn hl => ⟨hx12.keep n hl, hn, by omega⟩
    cases hb : bodyF (SizeOf.sizeOf r + 1) r with
    | none =>
     have hrs : readyS r = (zeroB, .ball (typeT sCallable r)) := by unfold readyS; rw [if_neg (fun h => h hcr), hb]
     rw [hb] at hR3
     rw [hrs] at hev
     obtain ⟨pb, ab, cb, rfl, gb, rb⟩ := hev.rep
     have qb := row6 gb
     have hne1 : ((typeT sCallable r).name.toList == sResE.toList) = false := zir (show sTypeE ≠ sResE by decide)
     (repeat refine EvC.seq ?_); refine EvC.reg ?_; simp (config := { maxSteps := 2000000 }) (disch := first | omega | rfl) only [sB, Nat.reduceEqDiff, z1l, zde zjn]
     (repeat refine EvC.seq ?_); refine EvC.drw [([(0, 0), (1, 0), (2, 0), (3, 0), (4, 0), (5, 0), (6, 0), (7, 0), (8, 0), (9, 0), (10, 0), (11, 0), (12, 0), (13, 0)], some 14), ([(15, 0)], some 16), ([], some 17), ([(18, 3), (19, 3), (20, 3), (21, 3)], none)] (by kernel_rfl) ?_; simp (config := { maxSteps := 2000000 }) (disch := first | omega | rfl) only [sD, sB, Nat.reduceEqDiff, Nat.reduceAdd, reduceCtorEq, zm3, z2e, ld9, isAlloc, isRead, reduceCtorEq, qb, zfk, zcc, z1j, hne1, zmj]
     (repeat refine EvC.seq ?_); refine EvC.condF (by simp (config := { maxSteps := 2000000 }) (disch := first | omega | rfl) only [sB, Nat.reduceEqDiff]) ?_; (try refine EvC.skip ?_); (try simp only [z02, z03])
     repeat' (first | refine EvC.seq ?_ | refine EvC.scope ?_ | refine EvC.block ?_ | (refine EvC.skip ?_) | (refine EvC.exit ?_) | (refine EvC.ret ?_; try simp only [z01, z00]) | (refine EvC.reg ?_; simp (config := { maxSteps := 2000000 }) (disch := first | omega | rfl) only [sB, Nat.reduceEqDiff, zfl]) | (refine EvC.drw (id := 25) [([(0, 0), (2, 0)], some 3), ([(1, 0), (4, 1)], none)] ?_ ?_; kernel_rfl; simp (config := { maxSteps := 2000000 }) (disch := first | omega | rfl) only [sD, sB, Nat.reduceEqDiff, Nat.reduceAdd, one, reduceCtorEq, ld48, st48, t5, t7, q7, g5, isAlloc, isRead, reduceCtorEq, Bool.and_true]) | (refine EvC.condT ?_ ?_; simp (config := { maxSteps := 2000000 }) (disch := first | omega | rfl) only [sB, Nat.reduceEqDiff]; refine z04 ?_))
     refine z2h (lo := H10.next) (hi := H11.next) hR3 ((hxH12.bump 22).bump 5) g5 (by simp only [sB, Nat.reduceEqDiff] <;> rfl) (by simp only [sG, Nat.reduceEqDiff, t5] <;> rfl) (by simp only [sG, Nat.reduceEqDiff] <;> rfl) (hev.to fun n hn hl => ⟨rfl, hn, by show n < H12.next + 22 + 5; omega⟩) (by omega) (by show _ ≤ H12.next + 22 + 5; omega)
    | some b =>
     rw [hb] at hR3
     simp only at hR3
     by_cases h4 : 4000 < cnt (toldB b) 0
     ·have hrs : readyS r = (zeroB, .ball (resT sNodes)) := by unfold readyS; rw [if_neg (fun h => h hcr), hb]; simp only; rw [if_pos h4]
      have hR4 : readB m2 t2 r = (ByteArray.empty, zeroC, .ball (resT sClause)) := by rw [hR3, if_pos (by omega)]
      rw [hrs] at hev
      obtain ⟨pb, ab, cb, rfl, gb, rb⟩ := hev.rep
      have qb := row6 gb
      have hne1 : ((resT sNodes).name.toList == sResE.toList) = true := z39 rfl
      (repeat refine EvC.seq ?_); refine EvC.reg ?_; simp (config := { maxSteps := 2000000 }) (disch := first | omega | rfl) only [sB, Nat.reduceEqDiff, z1l, zde zjn]
      (repeat refine EvC.seq ?_); refine EvC.drw [([(0, 0), (1, 0), (2, 0), (3, 0), (4, 0), (5, 0), (6, 0), (7, 0), (8, 0), (9, 0), (10, 0), (11, 0), (12, 0), (13, 0)], some 14), ([(15, 0)], some 16), ([], some 17), ([(18, 3), (19, 3), (20, 3), (21, 3)], none)] (by kernel_rfl) ?_; simp (config := { maxSteps := 2000000 }) (disch := first | omega | rfl) only [sD, sB, Nat.reduceEqDiff, Nat.reduceAdd, reduceCtorEq, zm3, z2e, ld9, isAlloc, isRead, reduceCtorEq, qb, zfk, zcc, z1j, hne1]
      (repeat refine EvC.seq ?_); refine EvC.condT (by simp (config := { maxSteps := 2000000 }) (disch := first | omega | rfl) only [sB, Nat.reduceEqDiff]) ?_; (try refine EvC.skip ?_); (try simp only [z02, z03])
      (repeat refine EvC.seq ?_); refine EvC.drw [([], some 1), ([(0, 0), (2, 1)], some 3), ([(4, 2)], none)] (by kernel_rfl) ?_; simp (config := { maxSteps := 2000000 }) (disch := first | omega | rfl) only [sD, sA, Nat.reduceAdd, cl30]
      have hb2 : HX H12 ⟨H12.next + 22 + 5, H12.t⟩ := ((HX.refl w12).bump 22).bump 5
      refine (za8 (s := sClause) (by decide) hb2.wf).mono ?_
      rintro v H13 ⟨hx13, he13⟩
      have hx23 := hb2.trans hx13
      have q713 := z1f (hx23.get w12 g7)
      have g5 := hx23.get w12 g5
      repeat' (first | refine EvC.seq ?_ | refine EvC.scope ?_ | refine EvC.block ?_ | (refine EvC.skip ?_) | (refine EvC.exit ?_) | (refine EvC.ret ?_; try simp only [z01, z00]) | (refine z0u ?_; simp (config := { maxSteps := 2000000 }) (disch := first | omega | rfl) only [sV, sD, sB, Nat.reduceEqDiff, Nat.reduceAdd, one, reduceCtorEq, ld48, st48, t5, t7, q7, q713, g5, isAlloc, isRead, reduceCtorEq]))
      have n13 : H12.next + 22 + 5 ≤ H13.next := hx13.next
      exact z2h (lo := H12.next + 22 + 5) (hi := H13.next) hR4 (hxH12.trans hx23) g5 (by simp only [sB, Nat.reduceEqDiff] <;> rfl) (by simp only [sG, Nat.reduceEqDiff, t5] <;> rfl) (by simp only [sG, Nat.reduceEqDiff] <;> rfl) (he13.to fun n hn hl => ⟨rfl, hn, hl⟩) (by omega) (Nat.le_refl _)
     ·have hrs : readyS r = (b, .ok) := by unfold readyS; rw [if_neg (fun h => h hcr), hb]; simp only; rw [if_neg h4]
      rw [hrs] at hev
      obtain rfl : ev = .nilIface := hev.rep
      (repeat refine EvC.seq ?_); refine EvC.reg ?_; simp (config := { maxSteps := 2000000 }) (disch := first | omega | rfl) only [sB, Nat.reduceEqDiff, z1l, zja zjn]
      (repeat refine EvC.seq ?_); refine EvC.drw [([(0, 0), (1, 0), (2, 0), (3, 0), (4, 0), (5, 0), (6, 0), (7, 0), (8, 0), (9, 0), (10, 0), (11, 0), (12, 0), (13, 0)], some 14), ([(15, 0)], some 16), ([], some 17), ([(18, 3), (19, 3), (20, 3), (21, 3)], none)] (by kernel_rfl) ?_; simp (config := { maxSteps := 2000000 }) (disch := first | omega | rfl) only [sD, sB, Nat.reduceEqDiff, Nat.reduceAdd, reduceCtorEq, ld25, cl28, isAlloc, isRead, reduceCtorEq, t10, q10, zjo]
      have hb2 : HX H12 ⟨H12.next + 22, H12.t⟩ := (HX.refl w12).bump 22
      refine (z15 _ _ _ (r2.mono (hxH12.bump 22) hw) hb2.wf).mono ?_
      rintro v H13 ⟨rfl, hx13⟩
      have hx213 := hb2.trans hx13
      have q1213 := row8 (hx213.get w12 g12)
      repeat' (first | refine EvC.seq ?_ | refine EvC.scope ?_ | refine EvC.block ?_ | (refine EvC.skip ?_) | (refine EvC.exit ?_) | (refine EvC.ret ?_; try simp only [z01, z00]) | (refine z0u ?_; simp (config := { maxSteps := 2000000 }) (disch := first | omega | rfl) only [sV, sD, sB, Nat.reduceEqDiff, reduceCtorEq, ld30, cl29, q12, q1213, isAlloc, isRead, reduceCtorEq]))
      have hfew := (z5s (z0e.1 hcr).2 hb).up (m := 1000000) (by decide)
      have hrb : (readyS r).1 = b := by rw [hrs]
      have w13 := hx13.wf
      have hk3 := hx12.trans hx213
      have hob13 : OB H13 30 25 (Rg H10.next H11.next) (readyS r).1 _ := hob.keep hk3
      refine (za7 (Nat.lt_succ_self _) hob13.bi (by rw [hrb]; exact hfew) (fun n hn => by have := hn.2; have := hk3.next; omega) w13).mono ?_
      rintro v H14 ⟨hx14, outT, rfl, hrT⟩
      rw [hrb] at hrT
      repeat' (first | refine EvC.seq ?_ | refine EvC.scope ?_ | refine EvC.block ?_ | (refine EvC.skip ?_) | (refine EvC.exit ?_) | (refine EvC.ret ?_; try simp only [z01, z00]) | (refine z0u ?_; simp (config := { maxSteps := 2000000 }) (disch := first | omega | rfl) only [sD, sB, Nat.reduceEqDiff, cl28]))
      refine (z15 _ _ _ hrT.rep hx14.wf).mono ?_
      rintro v H15 ⟨rfl, hx15⟩
      repeat' (first | refine EvC.seq ?_ | refine EvC.scope ?_ | refine EvC.block ?_ | (refine EvC.skip ?_) | (refine EvC.exit ?_) | (refine EvC.ret ?_; try simp only [z01, z00]) | (refine z0u ?_; simp (config := { maxSteps := 2000000 }) (disch := first | omega | rfl) only [sD, sB, Nat.reduceEqDiff, Nat.reduceAdd, reduceCtorEq, isAlloc, isRead, reduceCtorEq]) | (refine EvC.condT ?_ ?_; simp (config := { maxSteps := 2000000 }) (disch := first | omega | rfl) only [sB, Nat.reduceEqDiff]; refine z04 ?_) | (refine EvC.condF ?_ ?_; simp (config := { maxSteps := 2000000 }) (disch := first | omega | rfl) only [sB, Nat.reduceEqDiff]; refine z04 ?_))
      have hx25 := (hx213.trans hx14).trans hx15
      have g10 := hx25.get w12 g10
      have g11 := hx25.get w12 g11
      have g5 := hx25.get w12 g5
      have g7 := hx25.get w12 g7
      have q10 := row6 g10
      have q11 := row6 g11
      have q7 := z1f g7
      have w15 := hx25.wf
      have n25 := hx25.next
      have hxH15 := hxH12.trans hx25
      have cp1 := z7t t2
      have cp2 := z7t (toldB b)
      by_cases h400 : 400 < cnt t2 0 + cnt (toldB b) 0
      ·have hR4 : readB m2 t2 r = (ByteArray.empty, zeroC, .ball (resT sClause)) := by rw [hR3, if_pos h400]
       have hd : decide ((cnt t2 0 : Int) + (cnt (toldB b) 0 : Int) > 400) = true := decide_eq_true (by omega)
       (repeat refine EvC.seq ?_); refine EvC.condT (by simp (config := { maxSteps := 2000000 }) (disch := first | omega | rfl) only [sB, Nat.reduceEqDiff, z0c, hd]) ?_; (try refine EvC.skip ?_); (try simp only [z02, z03])
       (repeat refine EvC.seq ?_); refine EvC.drw [([], some 1), ([(0, 0), (2, 1)], some 3), ([(4, 2)], none)] (by kernel_rfl) ?_; simp (config := { maxSteps := 2000000 }) (disch := first | omega | rfl) only [sD, sA, Nat.reduceAdd, cl30]
       have hb2 : HX H15 ⟨H15.next + 5, H15.t⟩ := (HX.refl w15).bump 5
       refine (za8 (s := sClause) (by decide) hb2.wf).mono ?_
       rintro v H16 ⟨hx16, he16⟩
       have hx23 := hb2.trans hx16
       have q716 := z1f (hx23.get w15 g7)
       have g5 := hx23.get w15 g5
       repeat' (first | refine EvC.seq ?_ | refine EvC.scope ?_ | refine EvC.block ?_ | (refine EvC.skip ?_) | (refine EvC.exit ?_) | (refine EvC.ret ?_; try simp only [z01, z00]) | (refine z0u ?_; simp (config := { maxSteps := 2000000 }) (disch := first | omega | rfl) only [sV, sD, sB, Nat.reduceEqDiff, Nat.reduceAdd, one, reduceCtorEq, ld48, st48, t5, t7, q7, q716, g5, isAlloc, isRead, reduceCtorEq]))
       have n16 : H15.next + 5 ≤ H16.next := hx16.next
       exact z2h (lo := H15.next + 5) (hi := H16.next) hR4 (hxH15.trans hx23) g5 (by simp only [sB, Nat.reduceEqDiff] <;> rfl) (by simp only [sG, Nat.reduceEqDiff, t5] <;> rfl) (by simp only [sG, Nat.reduceEqDiff] <;> rfl) (he16.to fun n hn hl => ⟨rfl, hn, hl⟩) (by omega) (Nat.le_refl _)
      have hR4 : readB m2 t2 r = (m2, madeC t2 r, .ok) := by rw [hR3, if_neg h400]
      have hd : decide ((cnt t2 0 : Int) + (cnt (toldB b) 0 : Int) > 400) = false := decide_eq_false (by omega)
      (repeat refine EvC.seq ?_); refine EvC.condF (by simp (config := { maxSteps := 2000000 }) (disch := first | omega | rfl) only [sB, Nat.reduceEqDiff, z0c, hd]) ?_; (try refine EvC.skip ?_); (try simp only [z02, z03])
      (repeat refine EvC.seq ?_); refine EvC.reg ?_; simp (config := { maxSteps := 2000000 }) (disch := first | omega | rfl) only [sB, Nat.reduceEqDiff, z8a]
      (repeat refine EvC.seq ?_); refine EvC.condF (by simp (config := { maxSteps := 2000000 }) (disch := first | omega | rfl) only [sB, Nat.reduceEqDiff]) ?_; (try refine EvC.skip ?_); (try simp only [z02, z03])
      (repeat refine EvC.seq ?_); refine EvC.reg ?_; simp (config := { maxSteps := 2000000 }) (disch := first | omega | rfl) only [sB, Nat.reduceEqDiff, Nat.reduceAdd, Value.cells, one, Nat.reduceLeDiff, layC, ld25, z7n, cl42, t10, t11, q10, q11]
      obtain ⟨H16, e16, k16, g16, hn16, w16⟩ := new1 w15 (.row (six t2 a2 c2 ++ six r ar cr) 25)
      have e16' := e16
      simp only [six, List.cons_append, List.nil_append] at e16'
      simp only [e16']
      clear e16 e16'
      have hxH16 := hxH15.trans k16
      have hch2 : chkL [t2, r] = 0 := by simp [chkL, hc2, hcr]
      have ho2 : (occL [t2, r]).length ≤ 8000 := by
       have := zj5 hc2
       have := zj5 hcr
       simp only [occL, List.length_append, List.length_nil]; omega
      refine (zl4 (RepL.two (r2.mono hxH16 hw) (rr.mono hxH16 hw) g16) (Nat.le_trans ho2 (by simp [most])) (by simp [most]) w16).mono ?_
      rintro v H17 ⟨ap, kp, rfl, hfl, hx17⟩
      rw [if_pos hch2] at hfl ⊢
      have hff : ∀ u ∈ [t2, r], Fine u := fun u hu => by
       rcases List.mem_cons.1 hu with rfl | hu
       ·exact (z0e.1 hc2).2
       ·rw [List.mem_singleton.1 hu]; exact (z0e.1 hcr).2
      have hpo : (occL (plainL [t2, r])).length ≤ 8000 := by rw [z4i, zfh hff, List.length_map]; exact ho2
      have hpc : chkL (plainL [t2, r]) = 0 := by
       have hp := fun n => (z5n (uniq (occL [t2, r])) n).1
       rw [z4i]
       simp [chkL, zab hp hc2, zab hp hcr]
      have hmc : madeC t2 r = ⟨(plainL [t2, r]).getD 0 zeroT, (readyS ((plainL [t2, r]).getD 1 zeroT)).1, (uniq (occL (plainL [t2, r]))).length⟩ := rfl
      obtain ⟨u0, u1, hpl⟩ : ∃ u0 u1, plainL [t2, r] = [u0, u1] := ⟨_, _, rfl⟩
      have hu1 : checkS u1 = 0 := z7s hpc u1 (by rw [hpl]; simp)
      rw [hpl] at hfl hpo hpc hmc ⊢
      obtain ⟨cellsp, rlp⟩ := hfl.rep
      have w17 := hx17.wf
      have n17 := hx17.next
      try simp (config := { maxSteps := 2000000 }) (disch := first | omega | rfl) only [sB, Nat.reduceEqDiff, Nat.reduceAdd]
      (repeat refine EvC.seq ?_); refine EvC.reg ?_; simp (config := { maxSteps := 2000000 }) (disch := first | omega | rfl) only [sB, Nat.reduceEqDiff, cl43]
      refine (za3 rlp (Nat.le_trans hpo (by simp [most])) w17).mono ?_
      rintro v H18 ⟨u, rfl, hil, hx18⟩
      rw [if_pos hpc] at hil
      obtain ⟨au, ku, rfl, -, -⟩ := hil.slice
      obtain ⟨bp, op, ax0, cx0, hap, ld0, rs0⟩ := hfl.elS (i := 0) w17 (by simp)
      obtain ⟨bp', op', ax1, cx1, hap', ld1, rs1⟩ := hfl.elS (i := 1) w17 (by simp)
      subst hap
      cases hap'
      simp only [Nat.zero_mul, Nat.add_zero, Nat.one_mul, List.getElem_cons_zero, List.getElem_cons_succ] at ld0 ld1 rs0 rs1
      have ld1' := hx18.load w17 ld1
      have w18 := hx18.wf
      have n18 := hx18.next
      try simp (config := { maxSteps := 2000000 }) (disch := first | omega | rfl) only [sB, Nat.reduceEqDiff]
      (repeat refine EvC.seq ?_); refine EvC.reg ?_; simp (config := { maxSteps := 2000000 }) (disch := first | omega | rfl) only [sB, Nat.reduceEqDiff, Int.reduceToNat, ld25, cl7, ld1', iz23, Nat.one_mul]
      refine (z40 (rs1.rep.mono hx18 w17) w18).mono ?_
      rintro v H19 ⟨hx19, outB, evB, rfl, hoB, -⟩
      obtain ⟨bta, btc, bsa, bsc, rfl⟩ := hoB.rep.eight
      have w19 := hx19.wf
      have n19 := hx19.next
      try simp (config := { maxSteps := 2000000 }) (disch := first | omega | rfl) only [sB, dAlloc, Nat.reduceEqDiff, Nat.reduceAdd, one, zr30, st30]
      obtain ⟨H20, e20, hx20, g20, hn20, w20⟩ := z0l w19 (.row zero8 30) (.row (eightT (readyS u1).1.kind (readyS u1).1.term bta btc bsa (readyS u1).1.sub.length bsc) 30)
      simp only [e20]
      clear e20
      have k20 := (hx18.trans hx19).trans hx20
      have hx16' := hx17.trans k20
      have ld0' := k20.load w17 ld0
      have q20 := row8 g20
      have g5 := hx16'.get w16 (k16.get w15 g5)
      have hxH20 := hxH16.trans hx16'
      have nU : (uniq (occL [u0, u1])).length ≤ 8000 := Nat.le_trans (za2 _) hpo
      (repeat refine EvC.seq ?_); refine EvC.drw [([(0, 0), (1, 0), (2, 0), (3, 0), (4, 0), (5, 0), (6, 0), (7, 0), (8, 0)], some 9), ([(10, 1)], none)] (by kernel_rfl) ?_; simp (config := { maxSteps := 2000000 }) (disch := first | omega | rfl) only [sD, sB, Nat.reduceEqDiff, Nat.reduceAdd, Value.cells, one, reduceCtorEq, Nat.reduceLeDiff, layC, Int.reduceToNat, ld25, st48, ld30, ln84, bd48, isAlloc, isRead, reduceCtorEq, t0, t5, ld0', q20, g5, iz23, Nat.zero_mul]
      repeat' (first | refine EvC.seq ?_ | refine EvC.scope ?_ | refine EvC.block ?_ | (refine EvC.skip ?_) | (refine EvC.exit ?_) | (refine EvC.ret ?_; try simp only [z01, z00]))
      have hxb := hxH20.bump 11
      have hz := hxb.pt (i := H.next + 1) (by omega) (show Heap.get ⟨H20.next + 11, H20.t⟩ (H.next + 1) = _ from g5) (some (.row (fift u0 ax0 cx0 (readyS u1).1.kind (readyS u1).1.term bta btc bsa (readyS u1).1.sub.length bsc (uniq (occL [u0, u1])).length) 48))
      rw [hR4, hmc]
      refine z3x rfl (by simp only [sG, Nat.reduceEqDiff] <;> rfl) (by simp only [sB, Nat.reduceEqDiff, t5] <;> rfl) (by simp only [sB, Nat.reduceAdd, cutC, ld48] <;> rfl) (by simp only [sG, Nat.reduceEqDiff] <;> rfl) ⟨hz, _, _, rfl, ⟨_, _, _, _, _, _, rfl, ?_, ?_⟩, RepES.fine⟩
      ·refine rs0.to fun n hn hl => ?_
       have a1 := hn.1
       have a2 := k20.next
       exact ⟨by rw [get_put, if_neg (by omega)]; exact k20.keep n hl, ⟨by omega, by rw [z07]; show n < H20.next + 11; omega⟩, by rw [z07]; show n < H20.next + 11; omega⟩
      ·refine hoB.to (fun n hn hl => ?_) fun n hn => ?_
       ·have a1 := hn.1
        have a2 := hx20.next
        exact ⟨by rw [get_put, if_neg (by omega)]; exact hx20.keep n hl, by rw [z07]; show n < H20.next + 11; omega⟩
       ·have a1 := hn.1
        have a3 := hn.2
        have a2 := hx20.next
        exact ⟨by omega, by rw [z07]; show n < H20.next + 11; omega⟩
theorem zjp {t : Tm} (hn : nodeS t = 0) (h : ∀ u ∈ t.args, Fine u) : Fine t := by
 unfold Fine
 rw [z4x, if_pos hn]
 have hl : ∀ l : List Tm, (∀ u ∈ l, Fine u) → allL nodeS l = 0 := by
  intro l
  induction l with
  | nil => intro _; rfl
  | cons u l ih =>
   intro hu
   rw [allL, if_pos (show allE nodeS u = 0 from hu u (by simp))]
   exact ih fun v hv => hu v (List.mem_cons_of_mem _ hv)
 exact hl t.args h
theorem z2t {s : ByteArray} {x y : Tm} (hs : nodeS (cmpT s [zeroT, zeroT]) = 0) (hx : Fine x) (hy : Fine y) : Fine (cmpT s [x, y]) :=
 zjp (by rw [show cmpT s [x, y] = .mk 5 s ByteArray.empty 0 0 [x, y] from rfl, z82 (l := [zeroT, zeroT]) (l' := [x, y]) rfl]; exact hs) fun u hu => by
  rcases List.mem_cons.1 hu with rfl | hu
  ·exact hx
  ·rw [List.mem_singleton.1 hu]; exact hy
theorem zcd {s : ByteArray} {x : Tm} (hs : nodeS (cmpT s [zeroT]) = 0) (hx : Fine x) : Fine (cmpT s [x]) :=
 zjp (by rw [show cmpT s [x] = .mk 5 s ByteArray.empty 0 0 [x] from rfl, z82 (l := [zeroT]) (l' := [x]) rfl]; exact hs) fun u hu => by rw [List.mem_singleton.1 hu]; exact hx
theorem zjq : nodeS (cmpT sCall [zeroT]) = 0 := by kernel_rfl
theorem zow : nodeS (cmpT sCol [zeroT, zeroT]) = 0 := by kernel_rfl
theorem zox : nodeS (cmpT sCma [zeroT, zeroT]) = 0 := by kernel_rfl
theorem zmk : nodeS (cmpT sArr [zeroT, zeroT]) = 0 := by kernel_rfl
theorem zml : nodeS (cmpT sSem [zeroT, zeroT]) = 0 := by kernel_rfl
theorem zoy : nodeS (cmpT sNck [zeroT, zeroT]) = 0 := by kernel_rfl
theorem zjr : Fine (atmT sTrue) := (z0e.1 z66).2
theorem zl9 : Fine (atmT sExc) := (z0e.1 (show checkS (atmT sExc) = 0 by kernel_rfl)).2
theorem isF2.fine {t x y : Tm} {s : ByteArray} (h : isF2 t s x y) (hf : Fine t) : Fine x ∧ Fine y := ⟨hf.args _ (by rw [h.2.2]; simp), hf.args _ (by rw [h.2.2]; simp)⟩
theorem zce {t : Tm} {b : Bdy} (hf : Fine t) (h : BdR t b) : Fine (toldB b) := by
 induction h with
 | var h => rw [z16]; exact zcd zjq hf
 | tru h1 h2 => rw [zca]; exact zjr
 | cut h1 h2 => rw [zcb]; exact zl9
 | mcall h h1 h2 h3 => rw [z16]; exact zcd zjq hf
 | mod h h1 h2 h3 hb ih => rw [z98]; exact z2t zow (h.fine hf).1 (ih (h.fine hf).2)
 | and h hb hd i1 i2 => rw [z99]; exact z2t zox (i1 (h.fine hf).1) (i2 (h.fine hf).2)
 | arr h hb hd i1 i2 => rw [z9b]; exact z2t zmk (i1 (h.fine hf).1) (i2 (h.fine hf).2)
 | ite h hg hb hd he i1 i2 i3 => rw [z64]; exact z2t zml (z2t zmk (i1 (hg.fine (h.fine hf).1).1) (i2 (hg.fine (h.fine hf).1).2)) (i3 (h.fine hf).2)
 | or h hn hb hd i1 i2 => rw [z9a]; exact z2t zml (i1 (h.fine hf).1) (i2 (h.fine hf).2)
 | call h => rw [z97]; exact hf
theorem z4j {s : ByteArray} {x y : Tm} : occ (cmpT s [x, y]) = occ x ++ occ y := by rw [z2s, if_neg (by intro q; cases q)]; show [] ++ occL [x, y] = _; simp [occL]
theorem zfm {s : ByteArray} {x : Tm} : occ (cmpT s [x]) = occ x := by rw [z2s, if_neg (by intro q; cases q)]; show [] ++ occL [x] = _; simp [occL]
theorem z9c {t x y : Tm} {s : ByteArray} (h : isF2 t s x y) : occ t = occ x ++ occ y := by rw [z2s, if_neg (by have := h.1; omega), h.2.2]; simp [occL]
theorem zfn {t : Tm} (hf : Fine t) (k : t.kind = 2) : occ t = [] := by rw [z2s, if_neg (by omega), (z1s (z1w hf.node).2.2.1).2.2.2.2 (by omega)]; rfl
theorem zjs {s : ByteArray} : occ (atmT s) = [] := by rw [z2s, if_neg (by intro q; cases q)]; rfl
theorem zla {t : Tm} {b : Bdy} (hf : Fine t) (h : BdR t b) : occ (toldB b) = occ t := by
 induction h with
 | var h => rw [z16, zfm]
 | tru h1 h2 => rw [zca, zjs, zfn hf h1]
 | cut h1 h2 => rw [zcb, zjs, zfn hf h1]
 | mcall h h1 h2 h3 => rw [z16, zfm]
 | mod h h1 h2 h3 hb ih => rw [z98, z4j, z9c h, ih (h.fine hf).2]
 | and h hb hd i1 i2 => rw [z99, z4j, z9c h, i1 (h.fine hf).1, i2 (h.fine hf).2]
 | arr h hb hd i1 i2 => rw [z9b, z4j, z9c h, i1 (h.fine hf).1, i2 (h.fine hf).2]
 | ite h hg hb hd he i1 i2 i3 => rw [z64, z4j, z4j, z9c h, z9c hg, i1 (hg.fine (h.fine hf).1).1, i2 (hg.fine (h.fine hf).1).2, i3 (h.fine hf).2]
 | or h hn hb hd i1 i2 => rw [z9a, z4j, z9c h, i1 (h.fine hf).1, i2 (h.fine hf).2]
 | call h => rw [z97]
theorem zdi {n : Int} {t : Tm} : ∀ {l : List Tm}, t ∈ l → n ∈ occ t → n ∈ occL l
 | u :: l, h, hn => by
  rw [occL]
  rcases List.mem_cons.1 h with rfl | h
  ·exact List.mem_append_left _ hn
  ·exact List.mem_append_right _ (zdi h hn)
section
variable {f : Int → Int}
theorem z1g {t : Tm} : (ren f t).kind = t.kind := by
 by_cases k : t.kind = 1
 ·rw [z88 k, k]; rfl
 ·rw [z3q k]; rfl
theorem z8b {t x y : Tm} {s : ByteArray} (h : isF2 t s x y) : isF2 (ren f t) s (ren f x) (ren f y) := by
 rw [z3q (by have := h.1; omega), h.2.2]; exact ⟨h.1, h.2.1, rfl⟩
theorem z67 {t : Tm} {s : ByteArray} : isF (ren f t) s ↔ isF t s := by
 by_cases k : t.kind = 1
 ·rw [z88 k]; exact ⟨fun q => (by cases q.1), fun q => (by have := q.1; omega)⟩
 ·rw [z3q k]
  exact ⟨fun q => ⟨q.1, q.2.1, by have := q.2.2; simpa [Tm.args] using this⟩, fun q => ⟨q.1, q.2.1, by have := q.2.2; simpa [Tm.args] using this⟩⟩
theorem z42 {s : ByteArray} {l : List Tm} : ren f (cmpT s l) = cmpT s (l.map (ren f)) := by rw [z3q (by intro q; cases q)]; rfl
theorem zjt {s : ByteArray} : ren f (atmT s) = atmT s := by rw [z3q (by intro q; cases q)]; rfl
theorem zae {t : Tm} : isNum (ren f t) ↔ isNum t := by unfold isNum; rw [z1g]
theorem znx {t : Tm} (h : Oth t) : Oth (ren f t) := by
 have hn : (ren f t).name = t.name := by rw [z3q h.var]; rfl
 exact ⟨fun q => h.num (zae.1 q), by rw [z1g]; exact h.var, by rw [z1g, hn]; exact h.tru, by rw [z1g, hn]; exact h.cut, fun q => h.col (z67.1 q), fun q => h.cma (z67.1 q), fun q => h.arr (z67.1 q), fun q => h.sem (z67.1 q)⟩
theorem zpf {t : Tm} {b : Bdy} (hf : Fine t) (h : BdR t b) : ∃ b', BdR (ren f t) b' ∧ toldB b' = ren f (toldB b) := by
 induction h with
 | @var t h => exact ⟨callB (ren f t), .var (by rw [z1g]; exact h), by rw [z16, z16, z42]; rfl⟩
 | tru h1 h2 => exact ⟨_, .tru (by rw [z1g]; exact h1) (by rw [z3q (by omega)]; exact h2), by rw [zca, zjt]⟩
 | cut h1 h2 => exact ⟨_, .cut (by rw [z1g]; exact h1) (by rw [z3q (by omega)]; exact h2), by rw [zcb, zjt]⟩
 | @mcall t x y h h1 h2 h3 => exact ⟨callB (ren f t), .mcall (z8b h) (by rw [z1g]; exact h1) (fun q => h2 (zae.1 q)) (by rw [z1g, z1g]; exact h3), by rw [z16, z16, z42]; rfl⟩
 | mod h h1 h2 h3 hb ih =>
  obtain ⟨b', i1, i2⟩ := ih (h.fine hf).2
  exact ⟨_, .mod (z8b h) (by rw [z1g]; exact h1) (by rw [z1g]; exact h2) (fun q => h3 (zae.1 q)) i1, by rw [z98, z98, z42, i2]; rfl⟩
 | and h hb hd i1 i2 =>
  obtain ⟨b', j1, j2⟩ := i1 (h.fine hf).1
  obtain ⟨d', k1, k2⟩ := i2 (h.fine hf).2
  exact ⟨_, .and (z8b h) j1 k1, by rw [z99, z99, z42, j2, k2]; rfl⟩
 | arr h hb hd i1 i2 =>
  obtain ⟨b', j1, j2⟩ := i1 (h.fine hf).1
  obtain ⟨d', k1, k2⟩ := i2 (h.fine hf).2
  exact ⟨_, .arr (z8b h) j1 k1, by rw [z9b, z9b, z42, j2, k2]; rfl⟩
 | ite h hg hb hd he i1 i2 i3 =>
  obtain ⟨b', j1, j2⟩ := i1 (hg.fine (h.fine hf).1).1
  obtain ⟨d', k1, k2⟩ := i2 (hg.fine (h.fine hf).1).2
  obtain ⟨e', l1, l2⟩ := i3 (h.fine hf).2
  exact ⟨_, .ite (z8b h) (z8b hg) j1 k1 l1, by rw [z64, z64, z42, j2, k2, l2]; simp only [List.map_cons, List.map_nil, z42]⟩
 | or h hn hb hd i1 i2 =>
  obtain ⟨b', j1, j2⟩ := i1 (h.fine hf).1
  obtain ⟨d', k1, k2⟩ := i2 (h.fine hf).2
  exact ⟨_, .or (z8b h) (fun q => hn (z67.1 q)) j1 k1, by rw [z9a, z9a, z42, j2, k2]; rfl⟩
 | call h => exact ⟨_, .call (znx h), by rw [z97, z97]⟩
theorem zmm : ∀ (m : Nat) {t : Tm}, SizeOf.sizeOf t < m → Fine t → (∀ n ∈ occ t, f n = n) → ren f t = t
 | 0, t, h, _, _ => by omega
 | m + 1, t, h, hf, ho => by
  by_cases k : t.kind = 1
  ·have hb := z1s (z1w hf.node).2.2.1
   rw [z88 k, ho t.var (by rw [z2s, if_pos k]; simp)]
   obtain ⟨k', s, u, b, v, l⟩ := t
   have e1 := hb.1 (by omega) (by omega)
   have e2 := hb.2.1 (by omega)
   have e3 := hb.2.2.1 (by omega)
   have e5 := hb.2.2.2.2 (by omega)
   simp only [Tm.name, Tm.num, Tm.bits, Tm.args, Tm.kind] at e1 e2 e3 e5 k
   subst e1 e2 e3 e5 k
   rfl
  ·rw [z3q k]
   have hm : t.args.map (ren f) = t.args := by
    have : ∀ l : List Tm, (∀ u ∈ l, ren f u = u) → l.map (ren f) = l := fun l hl => by
     conv => rhs; rw [← List.map_id l]
     exact List.map_congr_left hl
    refine this _ fun u hu => zmm m (by have := z0d hu; omega) (hf.args u hu) fun n hn => ho n ?_
    rw [z2s]
    exact List.mem_append_right _ (zdi hu hn)
   rw [hm]
   obtain ⟨k', s, u, b, v, l⟩ := t; rfl
end
theorem zcf {n : Int} : ∀ (l acc : List Int), n ∈ acc ∨ n ∈ l → n ∈ l.foldl addU acc
 | [], acc, h => by rcases h with h | h; exact h; simp at h
 | a :: l, acc, h => by
  refine zcf l (addU acc a) ?_
  rcases h with h | h
  ·refine .inl ?_; unfold addU; split
   ·exact h
   ·exact List.mem_append_left _ h
  ·rcases List.mem_cons.1 h with rfl | h
   ·refine .inl ?_; unfold addU; split
    ·assumption
    ·simp
   ·exact .inr h
theorem z8c {n : Int} {l : List Int} (h : n ∈ l) : n ∈ uniq l := zcf l [] (.inr h)
theorem zcg {F : Int → Int} : ∀ (l acc : List Int), (∀ a b, (a ∈ acc ∨ a ∈ l) → (b ∈ acc ∨ b ∈ l) → F a = F b → a = b) → (l.map F).foldl addU (acc.map F) = (l.foldl addU acc).map F
 | [], acc, _ => rfl
 | a :: l, acc, h => by
  have e : addU (acc.map F) (F a) = (addU acc a).map F := by
   unfold addU
   by_cases k : a ∈ acc
   ·rw [if_pos (List.mem_map_of_mem k), if_pos k]
   ·rw [if_neg (fun q => by
     obtain ⟨b, hb, e⟩ := List.mem_map.1 q
     exact k (h b a (.inl hb) (.inr (by simp)) e ▸ hb)), if_neg k, List.map_append]; rfl
  rw [List.map_cons, List.foldl_cons, List.foldl_cons, e]
  refine zcg l _ fun x y hx hy => h x y ?_ ?_
  ·rcases hx with hx | hx
   ·unfold addU at hx; split at hx
    ·exact .inl hx
    ·rcases List.mem_append.1 hx with hx | hx
     ·exact .inl hx
     ·exact .inr (by rw [List.mem_singleton.1 hx]; simp)
   ·exact .inr (List.mem_cons_of_mem _ hx)
  ·rcases hy with hx | hx
   ·unfold addU at hx; split at hx
    ·exact .inl hx
    ·rcases List.mem_append.1 hx with hx | hx
     ·exact .inl hx
     ·exact .inr (by rw [List.mem_singleton.1 hx]; simp)
   ·exact .inr (List.mem_cons_of_mem _ hx)
theorem zlb {F : Int → Int} {l : List Int} (h : ∀ a ∈ l, ∀ b ∈ l, F a = F b → a = b) : uniq (l.map F) = (uniq l).map F :=
 zcg l [] fun a b ha hb => h a (ha.resolve_left (by simp)) b (hb.resolve_left (by simp))
theorem zfo {L : List Int} {n : Int} (h : n ∈ L) : ∃ i, L.idxOf? n = some i ∧ L[i]? = some n := by
 cases e : L.idxOf? n with
 | none =>
  rw [List.idxOf?, List.findIdx?_eq_none_iff] at e
  have := e n h
  simp at this
 | some i =>
  rw [List.idxOf?, List.findIdx?_eq_some_iff_getElem] at e
  obtain ⟨hi, hn, -⟩ := e
  exact ⟨i, rfl, by rw [List.getElem?_eq_getElem hi]; simp at hn; rw [hn]⟩
theorem zju {L : List Int} {a b : Int} (ha : a ∈ L) (hb : b ∈ L) (h : plcZ L a = plcZ L b) : a = b := by
 obtain ⟨i, e1, e2⟩ := zfo ha
 obtain ⟨j, e3, e4⟩ := zfo hb
 unfold plcZ at h
 rw [e1, e3] at h
 have : i = j := by simp only [Option.getD_some] at h; omega
 subst this
 rw [e2] at e4; exact Option.some.inj e4
theorem zny {F : Int → Int} {L : List Int} {n : Int} (h : ∀ a ∈ L, F a = F n → a = n) : plcZ (L.map F) (F n) = plcZ L n := by
 have : (L.map F).idxOf? (F n) = L.idxOf? n := by
  unfold List.idxOf?
  rw [List.findIdx?_map]
  induction L with
  | nil => rfl
  | cons a L ih =>
   rw [List.findIdx?_cons, List.findIdx?_cons, ih fun x hx => h x (List.mem_cons_of_mem _ hx)]
   have : ((fun x => x == F n) ∘ F) a = (a == n) := by
    show (F a == F n) = (a == n)
    by_cases e : a = n
    ·subst e; rw [beq_self_eq_true, beq_self_eq_true]
    ·have : F a ≠ F n := fun q => e (h a (by simp) q)
     rw [beq_eq_false_iff_ne.2 this, beq_eq_false_iff_ne.2 e]
   rw [this]
 unfold plcZ
 rw [this]
theorem znz {l : List Int} {n : Int} (h : n ∈ l) : plcZ (uniq (l.map (plcZ (uniq l)))) (plcZ (uniq l) n) = plcZ (uniq l) n := by
 have hi : ∀ a ∈ l, ∀ b ∈ l, plcZ (uniq l) a = plcZ (uniq l) b → a = b := fun a ha b hb e => zju (z8c ha) (z8c hb) e
 rw [zlb hi]
 exact zny fun a ha e => zju ha (z8c h) e
theorem zjv {l l2 : List Tm} (hf : ∀ u ∈ l2, Fine u) (ho : occL l2 = (occL l).map (plcZ (uniq (occL l)))) : plainL l2 = l2 := by
 rw [z4i]
 have : ∀ l3 : List Tm, (∀ u ∈ l3, u ∈ l2) → l3.map (ren (plcZ (uniq (occL l2)))) = l3 := by
  intro l3
  induction l3 with
  | nil => intro _; rfl
  | cons u l3 ih =>
   intro hu
   rw [List.map_cons, ih fun v hv => hu v (List.mem_cons_of_mem _ hv), zmm _ (Nat.lt_succ_self _) (hf u (hu u (by simp))) fun n hn => ?_]
   have hm : n ∈ occL l2 := zdi (hu u (by simp)) hn
   rw [ho] at hm ⊢
   obtain ⟨k, hk, rfl⟩ := List.mem_map.1 hm
   exact znz hk
 exact this l2 fun u hu => hu
theorem zch : ∀ {k : Nat} {m m' : ByteArray} {t t' : Tm}, SizeOf.sizeOf t < k → checkS t = 0 → stripF k m t = (m', t', .ok) → checkS t' = 0 ∧ ¬ isF t' sCol := by
 intro k
 induction k with
 | zero => intro m m' t t' h; omega
 | succ k ih =>
  intro m m' t t' hs hc h
  rw [stripF] at h
  by_cases k1 : isF t sCol
  ·rw [if_pos k1] at h
   obtain ⟨x, y, hf⟩ := k1.two
   rw [hf.a0, hf.a1] at h
   by_cases k2 : x.kind = 1
   ·rw [if_pos k2] at h; cases h
   rw [if_neg k2] at h
   by_cases k3 : x.kind = 2
   ·rw [if_pos k3] at h
    exact ih (by have := hf.lt; omega) (z0y hc (by rw [hf.2.2]; simp)) h
   ·rw [if_neg k3] at h; cases h
  ·rw [if_neg k1] at h
   cases h
   exact ⟨hc, k1⟩
theorem zci {m : ByteArray} {t : Tm} (h : ¬ isF t sCol) : stripS m t = (m, t, .ok) := by unfold stripS; rw [stripF, if_neg h]
structure Good (b : Bdy) : Prop where
 ex : ∃ u, Fine u ∧ BdR u b
 few : nd (toldB b) ≤ 4000
theorem Good.fine {b : Bdy} (h : Good b) : Fine (toldB b) := by obtain ⟨u, h1, h2⟩ := h.ex; exact zce h1 h2
theorem Good.check {b : Bdy} (h : Good b) : checkS (toldB b) = 0 := z0e.2 ⟨by have := h.few; rw [z3p _ _ (Nat.lt_succ_self _) 0 (by omega)]; omega, h.fine⟩
theorem Good.R {b : Bdy} (h : Good b) : BdR (toldB b) b := by obtain ⟨u, h1, h2⟩ := h.ex; exact (zov h2).1
theorem Good.size {b : Bdy} (h : Good b) : szB b ≤ 8000 := by obtain ⟨u, h1, h2⟩ := h.ex; have := (znw h1 h2).2; have := h.few; omega
theorem Good.F {b : Bdy} (h : Good b) : bodyF (SizeOf.sizeOf (toldB b) + 1) (toldB b) = some b := zac (Nat.lt_succ_self _) h.R
theorem Good.ready {b : Bdy} (h : Good b) : readyS (toldB b) = (b, .ok) := by
 unfold readyS
 rw [if_neg (fun q => q h.check), h.F]
 simp only
 rw [if_neg (by have := h.few; rw [z3p _ _ (Nat.lt_succ_self _) 0 (by omega)]; omega)]
theorem zo0 {t : Tm} {n : Nat} (h : cnt t 0 ≤ n) (hn : n ≤ 4000) : nd t ≤ n := by
 have := z91 _ t (Nat.lt_succ_self _) 0 (by omega); omega
theorem zgw {t : Tm} (h : (readyS t).2 = .ok) : Good (readyS t).1 := by
 unfold readyS at h ⊢
 by_cases k : checkS t = 0
 rotate_left
 ·rw [if_pos k] at h; cases h
 rw [if_neg (fun q => q k)] at h ⊢
 cases hb : bodyF (SizeOf.sizeOf t + 1) t with
 | none => rw [hb] at h; cases h
 | some b =>
  rw [hb] at h
  simp only at h ⊢
  by_cases k4 : 4000 < cnt (toldB b) 0
  ·rw [if_pos k4] at h; cases h
  rw [if_neg k4]
  exact ⟨⟨t, (z0e.1 k).2, zjm hb⟩, zo0 (show cnt (toldB b) 0 ≤ 4000 by omega) (Nat.le_refl _)⟩
structure GoodC (c : Cls) : Prop where
 good : Good c.body
 head : checkS c.head = 0
 col : ¬ isF c.head sCol
 var : c.head.kind ≠ 1
 num : ¬ isNum c.head
 few : nd c.head + nd (toldB c.body) ≤ 400
 fix : plainL [c.head, toldB c.body] = [c.head, toldB c.body]
 vars : c.vars = (uniq (occL [c.head, toldB c.body])).length
theorem zgx {m m' : ByteArray} {h r : Tm} {c : Cls} (hh : checkS h = 0) (hr : checkS r = 0) (hc : ¬ isF h sCol) (e : readB m h r = (m', c, .ok)) : m' = m ∧ GoodC c := by
 unfold readB at e
 by_cases k1 : h.kind = 1
 ·rw [if_pos k1] at e; cases e
 rw [if_neg k1] at e
 by_cases k2 : isNum h
 ·rw [if_pos k2] at e; cases e
 rw [if_neg k2] at e
 cases hb : bodyF (SizeOf.sizeOf r + 1) r with
 | none => rw [hb] at e; cases e
 | some b =>
  rw [hb] at e
  simp only at e
  by_cases k4 : 400 < cnt h 0 + cnt (toldB b) 0
  ·rw [if_pos k4] at e; cases e
  rw [if_neg k4] at e
  cases e
  refine ⟨rfl, ?_⟩
  obtain ⟨f, ef⟩ : ∃ f, plcZ (uniq (occL [h, r])) = f := ⟨_, rfl⟩
  have hf : ∀ n, 0 ≤ f n := fun n => by rw [← ef]; exact (z5n _ n).1
  have fh := (z0e.1 hh).2
  have fr := (z0e.1 hr).2
  have hpl : plainL [h, r] = [ren f h, ren f r] := by rw [z4i, ef]; rfl
  have hR := zjm hb
  obtain ⟨b1, hR1, ht1⟩ := zpf (f := f) fr hR
  have hr1 := zab hf hr
  have hh1 := zab hf hh
  have fr1 := (z0e.1 hr1).2
  have fh1 := (z0e.1 hh1).2
  have ftb := zce fr hR
  have n1 : nd h ≤ 400 := zo0 (by omega) (by decide)
  have n2 : nd (toldB b) ≤ 400 := zo0 (by omega) (by decide)
  have c1 := z3p _ h (Nat.lt_succ_self _) 0 (by omega)
  have c2 := z3p _ (toldB b) (Nat.lt_succ_self _) 0 (by omega)
  have n3 : nd (toldB b1) = nd (toldB b) := by rw [ht1, zfg _ (Nat.lt_succ_self _) ftb]
  have n4 : nd (ren f h) = nd h := zfg _ (Nat.lt_succ_self _) fh
  have hg : Good b1 := ⟨⟨_, fr1, hR1⟩, by omega⟩
  have hry : readyS (ren f r) = (b1, .ok) := by
   unfold readyS
   rw [if_neg (fun q => q hr1), zac (Nat.lt_succ_self _) hR1]
   simp only
   rw [if_neg (by rw [z3p _ _ (Nat.lt_succ_self _) 0 (by omega)]; omega)]
  have ho1 : occ (toldB b1) = (occ r).map f := by rw [zla fr1 hR1, zaa _ (Nat.lt_succ_self _) fr]
  have ho2 : occL [ren f h, toldB b1] = (occL [h, r]).map f := by
   simp only [occL, List.append_nil]
   rw [ho1, zaa _ (Nat.lt_succ_self _) fh, List.map_append]
  have hm : madeC h r = ⟨ren f h, b1, (uniq (occL [ren f h, ren f r])).length⟩ := by
   unfold madeC
   rw [hpl]
   show Cls.mk (ren f h) (readyS (ren f r)).1 _ = _
   rw [hry]
  rw [hm]
  refine ⟨hg, hh1, fun q => hc (z67.1 q), by show (ren f h).kind ≠ 1; rw [z1g]; exact k1, fun q => k2 (zae.1 q), by show nd (ren f h) + nd (toldB b1) ≤ 400; omega, ?_, ?_⟩
  ·exact zjv (l := [h, r]) (fun u hu => by
    rcases List.mem_cons.1 hu with rfl | hu
    ·exact fh1
    ·rw [List.mem_singleton.1 hu]; exact hg.fine) (by rw [ef]; exact ho2)
  ·show (uniq (occL [ren f h, ren f r])).length = (uniq (occL [ren f h, toldB b1])).length
   rw [ho2, ← zfh (l := [h, r]) (fun u hu => by
    rcases List.mem_cons.1 hu with rfl | hu
    ·exact fh
    ·rw [List.mem_singleton.1 hu]; exact fr)]
   rfl
theorem isF.chk {t : Tm} {s : ByteArray} (h : isF t s) (hc : checkS t = 0) : checkS (t.at 0) = 0 ∧ checkS (t.at 1) = 0 := by
 obtain ⟨x, y, hf⟩ := h.two
 rw [hf.a0, hf.a1]
 exact ⟨z0y hc (by rw [hf.2.2]; simp), z0y hc (by rw [hf.2.2]; simp)⟩
theorem zgy {m m' : ByteArray} {t : Tm} {c : Cls} (e : readS m t = (m', c, .ok)) : GoodC c := by
 unfold readS at e
 by_cases k : checkS t = 0
 rotate_left
 ·rw [if_pos k] at e; cases e
 rw [if_neg (fun q => q k)] at e
 obtain ⟨⟨m1, t1, e1⟩, hS⟩ : ∃ R, stripS m t = R := ⟨_, rfl⟩
 rw [hS] at e
 cases e1 with
 | num n => cases e
 | ball u => cases e
 | ok =>
  obtain ⟨c1, -⟩ := zch (Nat.lt_succ_self _) k hS
  simp only at e
  have hhr : checkS (headOf t1) = 0 ∧ checkS (restOf t1) = 0 := by
   unfold headOf restOf
   by_cases kn : isF t1 sNck
   ·rw [if_pos kn, if_pos kn]; exact kn.chk c1
   ·rw [if_neg kn, if_neg kn]; exact ⟨c1, z66⟩
  unfold readH at e
  obtain ⟨⟨m2, t2, e2⟩, hS2⟩ : ∃ R, stripS m1 (headOf t1) = R := ⟨_, rfl⟩
  rw [hS2] at e
  cases e2 with
  | num n => cases e
  | ball u => cases e
  | ok =>
   obtain ⟨c2, hn⟩ := zch (Nat.lt_succ_self _) hhr.1 hS2
   exact (zgx c2 hhr.2 hn e).2
def wholeC (c : Cls) : Tm := cmpT sNck [c.head, toldB c.body]
theorem GoodC.check {c : Cls} (h : GoodC c) : checkS (wholeC c) = 0 := by
 refine z0e.2 ⟨?_, z2t zoy (z0e.1 h.head).2 h.good.fine⟩
 have e : nd (wholeC c) = 1 + nd c.head + nd (toldB c.body) := z50
 have := h.few
 rw [z3p _ _ (Nat.lt_succ_self _) 0 (by omega)]; omega
theorem GoodC.read {c : Cls} (h : GoodC c) (m : ByteArray) : readS m (wholeC c) = (m, c, .ok) := by
 have hw : isF2 (wholeC c) sNck c.head (toldB c.body) := cmp2
 have hf := h.few
 unfold readS
 rw [if_neg (fun q => q h.check), zci (hw.f.ne (by decide))]
 simp only
 unfold headOf restOf readH
 rw [if_pos hw.f, if_pos hw.f, hw.a0, hw.a1, zci h.col]
 simp only
 unfold readB
 rw [if_neg h.var, if_neg h.num, h.good.F]
 simp only
 rw [z3p _ _ (Nat.lt_succ_self _) 0 (by omega), z3p _ _ (Nat.lt_succ_self _) 0 (by omega), if_neg (by omega)]
 have hm : madeC c.head (toldB c.body) = c := by
  unfold madeC
  rw [h.fix]
  show Cls.mk c.head (readyS (toldB c.body)).1 _ = c
  rw [h.good.ready]
  show Cls.mk c.head c.body _ = c
  rw [← h.vars]
 rw [hm]
theorem z8d (t : Tm) : cnt t 0 ≤ nd t := by
 have h1 := z7t t
 by_cases h : cnt t 0 ≤ 4000
 ·have := z91 _ t (Nat.lt_succ_self _) 0 h; omega
 ·by_cases k : nd t ≤ 4000
  ·have := z3p _ t (Nat.lt_succ_self _) 0 (by omega); omega
  ·omega
set_option maxHeartbeats 4000000 in
theorem zfp {m : Nat} : ∀ {t : Tm} {cs cs' : List Value} {H : Heap}, SizeOf.sizeOf t < m → RepT H t cs → RepT H t cs' → H.wf →
  EvF Tryd.prog okT 45 [.agg ⟨cs⟩, .agg ⟨cs'⟩] H fun v H' => v = .bool true ∧ HX H H' := by
 induction m with
 | zero => intro t cs cs' H h; omega
 | succ m ih =>
 intro t cs cs' H hsz r r' hw
 obtain ⟨a, c, cells, rfl, b1, b2, b3, b4, b5, rl⟩ := r.six
 obtain ⟨a', c', cells', rfl, b1', b2', b3', b4', b5', rl'⟩ := r'.six
 refine EvF.enter rfl Tryd.func45 (by decide) rfl ?_
 (repeat refine EvC.seq ?_); refine EvC.reg ?_; simp (config := { maxSteps := 2000000 }) (disch := first | omega | rfl) only [sB, initTm, dBox, Nat.reduceEqDiff, Value.cells, one, reduceCtorEq]
 obtain ⟨H2, e2, hx2, gp, gq, hnx, hw2⟩ := new2 hw (.row (six t a c) 25) (.row (six t a' c') 25)
 simp only [e2]
 have q1 := row6 gp
 have q2 := row6 gq
 clear e2
 repeat' (first | refine EvC.seq ?_ | refine EvC.scope ?_ | refine EvC.block ?_ | (refine EvC.skip ?_; try simp only [z02]) | (refine EvC.exit ?_) | (refine EvC.ret ?_; try simp only [z01, z00]) | (refine EvC.reg ?_; simp (config := { maxSteps := 2000000 }) (disch := first | omega | rfl) only [sB, Nat.reduceEqDiff, reduceCtorEq, z0m, ld3, z2e, ld9, z8w, zbk, ld22, z7m, z0v, ld23, ln23, z1m rfl, q1, q2, z2c, z39 rfl, Bool.not_true, Bool.false_eq_true]) | (refine EvC.condT ?_ ?_; simp (config := { maxSteps := 2000000 }) (disch := first | omega | rfl) only [sB, Nat.reduceEqDiff, reduceCtorEq]; refine z04 ?_) | (refine EvC.condF ?_ ?_; simp (config := { maxSteps := 2000000 }) (disch := first | omega | rfl) only [sB, Nat.reduceEqDiff, reduceCtorEq]; refine z04 ?_))
 have hm := rl.max
 refine EvC.loop (fun k st => ∃ tm H' i, st = ⟨tm, [], H'⟩ ∧ k = t.args.length - i ∧ i ≤ t.args.length ∧
   tm.get 2 = some (.pointer (some ⟨H.next, 0, none⟩)) ∧ tm.get 3 = some (.pointer (some ⟨H.next + 1, 0, none⟩)) ∧ tm.get 50 = some (.int .i64 t.args.length) ∧ tm.get 51 = some (.int .i64 (i : Nat)) ∧
   H'.get H.next = some (.row (six t a c) 25) ∧ H'.get (H.next + 1) = some (.row (six t a' c') 25) ∧ HX H H') ?_ t.args.length _ ?_
 ·rintro k st ⟨tm, H', i, rfl, rfl, hi, t2, t3, t50, t51, gp', gq', hx'⟩
  have q1 := row6 gp'
  have q2 := row6 gq'
  by_cases hlt : i < t.args.length
  ·obtain ⟨b, o, a1, c1, rfl, hld, hr1⟩ := rl.el hlt
   obtain ⟨b', o', a2, c2, rfl, hld', hr2⟩ := rl'.el hlt
   have hld1 := hx'.load hw hld
   have hld2 := hx'.load hw hld'
   repeat' (first | refine EvC.seq ?_ | refine EvC.scope ?_ | refine EvC.block ?_ | (refine EvC.skip ?_; try simp only [z02]) | (refine EvC.exit ?_) | (refine EvC.ret ?_; try simp only [z01, z00]) | (refine EvC.reg ?_; simp (config := { maxSteps := 2000000 }) (disch := first | omega | rfl) only [sB, Nat.reduceEqDiff, t50, t51, decl hlt]) | (refine EvC.drw [([(0, 0), (1, 0), (2, 0), (3, 0), (4, 0), (5, 0), (6, 0), (7, 0), (8, 0), (9, 0)], some 10), ([(11, 1)], none)] ?_ ?_; kernel_rfl; simp (config := { maxSteps := 2000000 }) (disch := first | omega | rfl) only [sD, sB, Nat.reduceEqDiff, Nat.reduceAdd, reduceCtorEq, z0v, ld23, ia23, ld25, cl45, t2, t3, q1, q2, hld1, hld2, isAlloc, isRead, reduceCtorEq]) | (refine EvC.condT ?_ ?_; simp (config := { maxSteps := 2000000 }) (disch := first | omega | rfl) only [sB]; refine z04 ?_))
   have hb := hx'.bump 12
   have hs := z1v (List.getElem?_eq_getElem hlt)
   refine (ih (t := t.args[i]) (by omega) (hr1.mono hb hw) (hr2.mono hb hw) hb.wf).mono ?_
   rintro v H4 ⟨rfl, hx4⟩
   have hx5 := hb.trans hx4
   repeat' (first | refine EvC.seq ?_ | refine EvC.scope ?_ | refine EvC.block ?_ | (refine EvC.skip ?_; try simp only [sA]) | (refine EvC.exit ?_) | (refine EvC.ret ?_; try simp only [z01, z00]) | (refine EvC.reg ?_; simp (config := { maxSteps := 2000000 }) (disch := first | omega | rfl) only [sB, Nat.reduceEqDiff, t51, z0c]) | (refine z0u ?_; simp (config := { maxSteps := 2000000 }) (disch := first | omega | rfl) only [sD, sB, Nat.reduceEqDiff, Bool.not_true, isAlloc, isRead]) | (refine EvC.condT ?_ ?_; simp (config := { maxSteps := 2000000 }) (disch := first | omega | rfl) only [sB, Nat.reduceEqDiff]; refine z04 ?_) | (refine EvC.condF ?_ ?_; simp (config := { maxSteps := 2000000 }) (disch := first | omega | rfl) only [sB, Nat.reduceEqDiff]; refine z04 ?_))
   exact ⟨t.args.length - (i + 1), by omega, _, _, i + 1, rfl, rfl, by omega, (by simp only [sG, Nat.reduceEqDiff, t2] <;> rfl), (by simp only [sG, Nat.reduceEqDiff, t3] <;> rfl), (by simp only [sG, Nat.reduceEqDiff, t50] <;> rfl), (by simp only [sB, Nat.reduceEqDiff] <;> rfl), hx4.get hb.wf gp', hx4.get hb.wf gq', hx5⟩
  ·repeat' (first | refine EvC.seq ?_ | refine EvC.scope ?_ | refine EvC.block ?_ | (refine EvC.skip ?_) | (refine EvC.exit ?_; try simp only [sB]) | (refine EvC.ret ?_; try simp only [z01, z00]) | (refine EvC.reg ?_; simp (config := { maxSteps := 2000000 }) (disch := first | omega | rfl) only [sA, t50, t51, decn hlt]) | (refine EvC.condT ?_ ?_; simp (config := { maxSteps := 2000000 }) (disch := first | omega | rfl) only [sB]; refine z04 ?_) | (refine EvC.condF ?_ ?_; simp (config := { maxSteps := 2000000 }) (disch := first | omega | rfl) only [sB]; refine z04 ?_))
   exact z06 rfl (by simp only [sG, Nat.reduceEqDiff] <;> rfl) ⟨rfl, hx'⟩
 ·exact ⟨_, _, 0, rfl, rfl, by omega, (by simp only [sG, Nat.reduceEqDiff, reduceCtorEq] <;> rfl), (by simp only [sG, Nat.reduceEqDiff, reduceCtorEq] <;> rfl), (by simp only [sG, Nat.reduceEqDiff, reduceCtorEq] <;> rfl), (by simp only [sB, Nat.reduceEqDiff, reduceCtorEq] <;> rfl), gp, gq, hx2⟩
set_option maxHeartbeats 8000000 in
theorem z6k {m : Nat} : ∀ {t : Bdy} {cs cs' : List Value} {H : Heap}, SizeOf.sizeOf t < m → RepB H t cs → RepB H t cs' → H.wf →
  EvF Tryd.prog okT 36 [.agg ⟨cs⟩, .agg ⟨cs'⟩] H fun v H' => v = .bool true ∧ HX H H' := by
 induction m with
 | zero => intro t cs cs' H h; omega
 | succ m ih =>
 intro t cs cs' H hsz r r' hw
 obtain ⟨ts, a, c, cells, rfl, hk, rt, rl⟩ := r.inv
 obtain ⟨ts', a', c', cells', rfl, -, rt', rl'⟩ := r'.inv
 obtain ⟨ta, tc, cellst, rfl, -⟩ := rt.inv
 obtain ⟨ta', tc', cellst', rfl, -⟩ := rt'.inv
 show EvF Tryd.prog okT 36 [.agg ⟨eightT t.kind t.term ta tc a t.sub.length c⟩, .agg ⟨eightT t.kind t.term ta' tc' a' t.sub.length c'⟩] H _
 refine EvF.enter rfl Tryd.func36 (by decide) rfl ?_
 (repeat refine EvC.seq ?_); refine EvC.reg ?_; simp (config := { maxSteps := 2000000 }) (disch := first | omega | rfl) only [sB, initTm, dBox, Nat.reduceEqDiff, Value.cells, one, reduceCtorEq]
 obtain ⟨H2, e2, hx2, gp, gq, hnx, hw2⟩ := new2 hw (.row (eightT t.kind t.term ta tc a t.sub.length c) 30) (.row (eightT t.kind t.term ta' tc' a' t.sub.length c') 30)
 simp only [e2]
 have q1 := row8 gp
 have q2 := row8 gq
 clear e2
 (repeat refine EvC.seq ?_); refine EvC.reg ?_; simp (config := { maxSteps := 2000000 }) (disch := first | omega | rfl) only [sB, Nat.reduceEqDiff, reduceCtorEq, z1k, ld3, z8v, ld25, cl45, q1, q2, z1m rfl]
 refine (zfp (Nat.lt_succ_self _) (rt.mono hx2 hw) (rt'.mono hx2 hw) hw2).mono ?_
 rintro v H3 ⟨rfl, hx3⟩
 have gp3 := hx3.get hw2 gp
 have gq3 := hx3.get hw2 gq
 have q1 := row8 gp3
 have q2 := row8 gq3
 have hx := hx2.trans hx3
 have hm := rl.cap
 have hl := rl.len
 have hmx : t.sub.length ≤ 9223372036854775807 := Nat.le_trans hl (Nat.le_trans hm (by decide))
 repeat' (first | refine EvC.seq ?_ | refine EvC.scope ?_ | refine EvC.block ?_ | (refine EvC.skip ?_; try simp only [z02]) | (refine EvC.exit ?_) | (refine EvC.ret ?_; try simp only [z01, z00]) | (refine EvC.reg ?_; simp (config := { maxSteps := 2000000 }) (disch := first | omega | rfl) only [sB, Nat.reduceEqDiff, reduceCtorEq, z3v, ld28, ln28, q1]) | (refine z0q ?_; simp (config := { maxSteps := 2000000 }) (disch := first | omega | rfl) only [sB, Nat.reduceEqDiff, reduceCtorEq, z3v, ld28, ln28, q1, q2, z1m rfl, Bool.not_true, Bool.false_eq_true]) | (refine EvC.condT ?_ ?_; simp (config := { maxSteps := 2000000 }) (disch := first | omega | rfl) only [sB, Nat.reduceEqDiff, reduceCtorEq]; refine z04 ?_) | (refine EvC.condF ?_ ?_; simp (config := { maxSteps := 2000000 }) (disch := first | omega | rfl) only [sB, Nat.reduceEqDiff, reduceCtorEq]; refine z04 ?_))
 refine EvC.loop (fun k st => ∃ tm H' i, st = ⟨tm, [], H'⟩ ∧ k = t.sub.length - i ∧ i ≤ t.sub.length ∧ 
   tm.get 2 = some (.pointer (some ⟨H.next, 0, none⟩)) ∧ tm.get 3 = some (.pointer (some ⟨H.next + 1, 0, none⟩)) ∧ tm.get 30 = some (.int .i64 t.sub.length) ∧ tm.get 31 = some (.int .i64 (i : Nat)) ∧
   H'.get H.next = some (.row (eightT t.kind t.term ta tc a t.sub.length c) 30) ∧ H'.get (H.next + 1) = some (.row (eightT t.kind t.term ta' tc' a' t.sub.length c') 30) ∧ HX H H') ?_ t.sub.length _ ?_
 ·rintro k st ⟨tm, H', i, rfl, rfl, hi, t2, t3, t30, t31, gp', gq', hx'⟩
  have q1 := row8 gp'
  have q2 := row8 gq'
  by_cases hlt : i < t.sub.length
  ·obtain ⟨b, o, rfl, hld, hr1⟩ := rl.el hlt
   obtain ⟨b', o', rfl, hld', hr2⟩ := rl'.el hlt
   obtain ⟨ua, uc, va, vc, hc1⟩ := hr1.eight
   obtain ⟨ua', uc', va', vc', hc2⟩ := hr2.eight
   rw [hc1] at hr1 hld
   rw [hc2] at hr2 hld'
   have hld1 := hx'.load hw hld
   have hld2 := hx'.load hw hld'
   repeat' (first | refine EvC.seq ?_ | refine EvC.scope ?_ | refine EvC.block ?_ | (refine EvC.skip ?_; try simp only [z02]) | (refine EvC.exit ?_) | (refine EvC.ret ?_; try simp only [z01, z00]) | (refine EvC.reg ?_; simp (config := { maxSteps := 2000000 }) (disch := first | omega | rfl) only [sB, Nat.reduceEqDiff, t30, t31, decl hlt]) | (refine EvC.drw [([(0, 0), (1, 0), (2, 0), (3, 0), (4, 0), (5, 0), (6, 0), (7, 0), (8, 0), (9, 0)], some 10), ([(11, 1)], none)] ?_ ?_; kernel_rfl; simp (config := { maxSteps := 2000000 }) (disch := first | omega | rfl) only [sD, sB, Nat.reduceEqDiff, Nat.reduceAdd, reduceCtorEq, z3v, ld28, ia28, ld30, cl36, t2, t3, q1, q2, hld1, hld2, isAlloc, isRead, reduceCtorEq]) | (refine EvC.condT ?_ ?_; simp (config := { maxSteps := 2000000 }) (disch := first | omega | rfl) only [sB]; refine z04 ?_))
   have hb := hx'.bump 12
   have hs := t.size _ (List.getElem_mem hlt)
   refine (ih (t := t.sub[i]) (by omega) (hr1.mono hb hw) (hr2.mono hb hw) hb.wf).mono ?_
   rintro v H4 ⟨rfl, hx4⟩
   have hx5 := hb.trans hx4
   repeat' (first | refine EvC.seq ?_ | refine EvC.scope ?_ | refine EvC.block ?_ | (refine EvC.skip ?_; try simp only [sA]) | (refine EvC.exit ?_) | (refine EvC.ret ?_; try simp only [z01, z00]) | (refine EvC.reg ?_; simp (config := { maxSteps := 2000000 }) (disch := first | omega | rfl) only [sB, Nat.reduceEqDiff, t31, z0c]) | (refine z0u ?_; simp (config := { maxSteps := 2000000 }) (disch := first | omega | rfl) only [sD, sB, Nat.reduceEqDiff, Bool.not_true, isAlloc, isRead]) | (refine EvC.condT ?_ ?_; simp (config := { maxSteps := 2000000 }) (disch := first | omega | rfl) only [sB, Nat.reduceEqDiff]; refine z04 ?_) | (refine EvC.condF ?_ ?_; simp (config := { maxSteps := 2000000 }) (disch := first | omega | rfl) only [sB, Nat.reduceEqDiff]; refine z04 ?_))
   exact ⟨t.sub.length - (i + 1), by omega, _, _, i + 1, rfl, rfl, by omega, (by simp only [sG, Nat.reduceEqDiff, t2] <;> rfl), (by simp only [sG, Nat.reduceEqDiff, t3] <;> rfl), (by simp only [sG, Nat.reduceEqDiff, t30] <;> rfl), (by simp only [sB, Nat.reduceEqDiff] <;> rfl), hx4.get hb.wf gp', hx4.get hb.wf gq', hx5⟩
  ·repeat' (first | refine EvC.seq ?_ | refine EvC.scope ?_ | refine EvC.block ?_ | (refine EvC.skip ?_) | (refine EvC.exit ?_; try simp only [sB]) | (refine EvC.ret ?_; try simp only [z01, z00]) | (refine EvC.reg ?_; simp (config := { maxSteps := 2000000 }) (disch := first | omega | rfl) only [sA, t30, t31, decn hlt]) | (refine EvC.condT ?_ ?_; simp (config := { maxSteps := 2000000 }) (disch := first | omega | rfl) only [sB]; refine z04 ?_) | (refine EvC.condF ?_ ?_; simp (config := { maxSteps := 2000000 }) (disch := first | omega | rfl) only [sB]; refine z04 ?_))
   exact z06 rfl (by simp only [sG, Nat.reduceEqDiff] <;> rfl) ⟨rfl, hx'⟩
 ·exact ⟨_, _, 0, rfl, rfl, by omega, (by simp only [sG, Nat.reduceEqDiff, reduceCtorEq] <;> rfl), (by simp only [sG, Nat.reduceEqDiff, reduceCtorEq] <;> rfl), (by simp only [sG, Nat.reduceEqDiff, reduceCtorEq] <;> rfl), (by simp only [sB, Nat.reduceEqDiff, reduceCtorEq] <;> rfl), gp3, gq3, hx⟩
theorem zjw {l : List Bdy} {i : Nat} (h : i < l.length) : szB.szBL (l.drop i) = szB l[i] + szB.szBL (l.drop (i + 1)) := by
 rw [List.drop_eq_getElem_cons h, szB.szBL]
theorem zoz (u : Bdy) : szB u = 1 + nd u.term + szB.szBL u.sub := by obtain ⟨k, t, l⟩ := u; rw [szB]; rfl
set_option maxHeartbeats 8000000 in
theorem zlc {m : Nat} : ∀ {u : Bdy} {cs : List Value} {n : Nat} {H : Heap}, SizeOf.sizeOf u < m → RepB H u cs → n + szB u ≤ 20000 → H.wf →
  EvF Tryd.prog okT 35 [.agg ⟨cs⟩, .int .i64 n] H fun v H' => HX H H' ∧ ∃ k : Nat, v = .int .i64 k ∧ k ≤ n + szB u := by
 induction m with
 | zero => intro u cs n H h; omega
 | succ m ih =>
 intro u cs n H hsz r hn hw
 obtain ⟨ts, a, c, cells, rfl, hk, rt, rl⟩ := r.inv
 obtain ⟨ta, tc, cellst, rfl, -⟩ := rt.inv
 have hz := zoz u
 have hcn := z8d u.term
 have hm := rl.cap
 have hl := rl.len
 have hmx : u.sub.length ≤ 9223372036854775807 := Nat.le_trans hl (Nat.le_trans hm (by decide))
 show EvF Tryd.prog okT 35 [.agg ⟨eightT u.kind u.term ta tc a u.sub.length c⟩, .int .i64 n] H _
 refine EvF.enter rfl Tryd.func35 (by decide) rfl ?_
 (repeat refine EvC.seq ?_); refine EvC.reg ?_; simp (config := { maxSteps := 2000000 }) (disch := first | omega | rfl) only [sB, initTm, dBox, Value.cells, one, reduceCtorEq]
 obtain ⟨H2, e2, hx2, gp, hnx, hw2⟩ := new1 hw (.row (eightT u.kind u.term ta tc a u.sub.length c) 30)
 simp only [e2]
 have q1 := row8 gp
 clear e2
 (repeat refine EvC.seq ?_); refine EvC.reg ?_; simp (config := { maxSteps := 2000000 }) (disch := first | omega | rfl) only [sB, Nat.reduceEqDiff, reduceCtorEq, z8v, ld25, cl28, q1]
 refine (z15 _ _ _ (rt.mono hx2 hw) hw2).mono ?_
 rintro v H3 ⟨rfl, hx3⟩
 have gp3 := hx3.get hw2 gp
 have q1 := row8 gp3
 have hx := hx2.trans hx3
 repeat' (first | refine EvC.seq ?_ | refine EvC.scope ?_ | refine EvC.block ?_ | (refine EvC.skip ?_) | (refine EvC.exit ?_) | (refine EvC.ret ?_; try simp only [z01, z00]) | (refine EvC.reg ?_; simp (config := { maxSteps := 2000000 }) (disch := first | omega | rfl) only [sB, Nat.reduceEqDiff, reduceCtorEq, z3v, ld28, ln28, q1]) | (refine z0q ?_; simp (config := { maxSteps := 2000000 }) (disch := first | omega | rfl) only [sB, Nat.reduceEqDiff, reduceCtorEq, z0c]))
 refine EvC.loop (fun k st => ∃ tm H' i x, st = ⟨tm, [], H'⟩ ∧ k = u.sub.length - i ∧ i ≤ u.sub.length ∧ x + szB.szBL (u.sub.drop i) ≤ n + szB u ∧
   tm.get 1 = some (.int .i64 (x : Nat)) ∧ tm.get 14 = some (.slice a u.sub.length c) ∧ tm.get 15 = some (.int .i64 u.sub.length) ∧ tm.get 16 = some (.int .i64 (i : Nat)) ∧ HX H H') ?_ u.sub.length _ ?_
 rotate_left
 ·exact ⟨_, _, 0, n + (1 + cnt u.term 0), rfl, rfl, by omega, by rw [List.drop_zero]; omega, (by simp only [sB, Nat.reduceEqDiff, reduceCtorEq] <;> rfl), (by simp only [sG, Nat.reduceEqDiff, reduceCtorEq] <;> rfl), (by simp only [sG, Nat.reduceEqDiff, reduceCtorEq] <;> rfl), (by simp only [sB, Nat.reduceEqDiff, reduceCtorEq] <;> rfl), hx⟩
 rintro k st ⟨tm, H', i, x, rfl, rfl, hi, hxs, t1, t14, t15, t16, hx'⟩
 by_cases hlt : i < u.sub.length
 ·obtain ⟨b, o, rfl, hld, hr1⟩ := rl.el hlt
  obtain ⟨ua, uc, va, vc, hc1⟩ := hr1.eight
  rw [hc1] at hr1 hld
  have hld1 := hx'.load hw hld
  have w' := hx'.wf
  rw [zjw hlt] at hxs
  have hd : decide ((x : Int) > 20000) = false := decide_eq_false (by omega)
  (repeat refine EvC.seq ?_); refine EvC.reg ?_; simp (config := { maxSteps := 2000000 }) (disch := first | omega | rfl) only [sA, t15, t16, decl hlt]
  (repeat refine EvC.seq ?_); refine EvC.condT (by simp (config := { maxSteps := 2000000 }) (disch := first | omega | rfl) only [sB]) ?_; (try refine EvC.skip ?_); (try simp only [z02, z03])
  (repeat refine EvC.seq ?_)
  refine EvC.block ?_
  (repeat refine EvC.seq ?_); refine EvC.reg ?_; simp (config := { maxSteps := 2000000 }) (disch := first | omega | rfl) only [sB, dAlloc, Nat.reduceEqDiff, Nat.reduceAdd, one, ia28, ld30, zr30, st30, t14, t16, hld1]
  obtain ⟨H4, e4, hx4, g6, hn4, w4⟩ := z0l w' (.row zero8 30) (.row (eightT u.sub[i].kind u.sub[i].term ua uc va u.sub[i].sub.length vc) 30)
  simp only [e4]
  clear e4
  have q6 := row8 g6
  have hs := u.size _ (List.getElem_mem hlt)
  (repeat refine EvC.seq ?_); refine EvC.reg ?_; simp (config := { maxSteps := 2000000 }) (disch := first | omega | rfl) only [sB, Nat.reduceEqDiff, t1, hd]
  (repeat refine EvC.seq ?_); refine EvC.condF (by simp (config := { maxSteps := 2000000 }) (disch := first | omega | rfl) only [sB, Nat.reduceEqDiff]) ?_; (try refine EvC.skip ?_); (try simp only [z02, z03])
  (repeat refine EvC.seq ?_); refine EvC.reg ?_; simp (config := { maxSteps := 2000000 }) (disch := first | omega | rfl) only [sB, Nat.reduceEqDiff, ld30, cl35, t1, q6]
  refine (ih (u := u.sub[i]) (n := x) (by omega) ((hr1.mono hx' hw).mono hx4 w') (by omega) w4).mono ?_
  rintro v H5 ⟨hx5, k1, rfl, hk1⟩
  repeat' (first | refine EvC.seq ?_ | refine EvC.scope ?_ | refine EvC.block ?_ | (refine EvC.skip ?_) | (refine EvC.exit ?_) | (refine EvC.ret ?_; try simp only [z01, z00]) | (refine EvC.reg ?_; simp (config := { maxSteps := 2000000 }) (disch := first | omega | rfl) only [sB, Nat.reduceEqDiff, t16, z0c]))
  exact ⟨u.sub.length - (i + 1), by omega, _, _, i + 1, k1, rfl, rfl, by omega, by omega, (by simp only [sG, Nat.reduceEqDiff] <;> rfl), (by simp only [sG, Nat.reduceEqDiff, t14] <;> rfl), (by simp only [sG, Nat.reduceEqDiff, t15] <;> rfl), (by simp only [sB, Nat.reduceEqDiff] <;> rfl), (hx'.trans hx4).trans hx5⟩
 ·repeat' (first | refine EvC.seq ?_ | refine EvC.scope ?_ | refine EvC.block ?_ | (refine EvC.skip ?_) | (refine EvC.exit ?_; try simp only [sB]) | (refine EvC.ret ?_; try simp only [z01, z00]) | (refine EvC.reg ?_; simp (config := { maxSteps := 2000000 }) (disch := first | omega | rfl) only [sB, Nat.reduceEqDiff, t1, t15, t16, decn hlt]) | (refine EvC.condT ?_ ?_; simp (config := { maxSteps := 2000000 }) (disch := first | omega | rfl) only [sB]; refine z04 ?_) | (refine EvC.condF ?_ ?_; simp (config := { maxSteps := 2000000 }) (disch := first | omega | rfl) only [sB]; refine z04 ?_))
  exact z06 rfl (by simp only [sG, Nat.reduceEqDiff] <;> rfl) ⟨hx', x, rfl, by omega⟩
theorem Good.few2 {b : Bdy} (h : Good b) : FewB 1000000 b := by
 obtain ⟨u, h1, h2⟩ := h.ex
 exact (z5s h1 (zac (Nat.lt_succ_self _) h2)).up (by decide)
set_option maxHeartbeats 8000000 in
theorem zaf {b : Bdy} {cs : List Value} {H : Heap} (hg : Good b) (r : RepB H b cs) (hw : H.wf) :
  EvF Tryd.prog okT 13 [.agg ⟨cs⟩] H fun v H' => HX H H' ∧ ∃ out, v = .tuple ⟨[.agg ⟨out⟩, .int .i64 0]⟩ ∧ OT H' (Rg H.next H'.next) (toldB b) out := by
 obtain ⟨ta, tc, a, c, rfl⟩ := r.eight
 refine EvF.enter rfl Tryd.func13 (by decide) rfl ?_
 (repeat refine EvC.seq ?_); refine EvC.reg ?_; simp (config := { maxSteps := 2000000 }) (disch := first | omega | rfl) only [sB, initTm, dBox, dAlloc, Value.cells, one, zr25]
 obtain ⟨H2, e2, hx2, g1, g2, hn2, hw2⟩ := new2 hw (.row (eightT b.kind b.term ta tc a b.sub.length c) 30) (.row zero6 25)
 simp only [e2]
 clear e2
 have q1 := row8 g1
 (repeat refine EvC.seq ?_); refine EvC.reg ?_; simp (config := { maxSteps := 2000000 }) (disch := first | omega | rfl) only [sB, Nat.reduceEqDiff, reduceCtorEq, ld30, cl35, q1]
 refine (zlc (n := 0) (Nat.lt_succ_self _) (r.mono hx2 hw) (by have := hg.size; omega) hw2).mono ?_
 rintro v H3 ⟨hx3, k, rfl, hk⟩
 have hd : decide ((k : Int) > 20000) = false := decide_eq_false (by have := hg.size; omega)
 have g1 := hx3.get hw2 g1
 have g2 := hx3.get hw2 g2
 have hx := hx2.trans hx3
 have w3 := hx.wf
 have n3 := hx3.next
 have q1 := row8 g1
 try simp (config := { maxSteps := 2000000 }) (disch := first | omega | rfl) only [sA]
 (repeat refine EvC.seq ?_); refine EvC.condF (by simp (config := { maxSteps := 2000000 }) (disch := first | omega | rfl) only [sB, Nat.reduceEqDiff, reduceCtorEq, hd]) ?_; (try refine EvC.skip ?_); (try simp only [z02, z03])
 (repeat refine EvC.seq ?_); refine EvC.reg ?_; simp (config := { maxSteps := 2000000 }) (disch := first | omega | rfl) only [sB, dAlloc, Nat.reduceEqDiff, reduceCtorEq, zr25, ld30, cl29, q1]
 have r3 := r.mono hx hw
 refine (za7 (Nat.lt_succ_self _) (r3.bi w3) hg.few2 (fun n hn => hn) w3).mono ?_
 rintro v H4 ⟨hx4, out, rfl, hrT⟩
 obtain ⟨ao, co, cellso, rfl, -⟩ := hrT.rep.six
 have w4 := hx4.wf
 have n4 := hx4.next
 have g1 := hx4.get w3 g1
 have g2 := hx4.get w3 g2
 try simp (config := { maxSteps := 2000000 }) (disch := first | omega | rfl) only [sB, Nat.reduceAdd, one, st25]
 obtain ⟨H5, e5, hx5, g4, hn5, w5⟩ := z0l w4 (.row zero6 25) (.row (six (toldB b) ao co) 25)
 simp only [e5]
 clear e5
 have g1 := hx5.get w4 g1
 have g2 := hx5.get w4 g2
 have q4 := row6 g4
 have rt5 : RepT H5 (toldB b) _ := hrT.rep.mono hx5 w4
 (repeat refine EvC.seq ?_); refine EvC.reg ?_; simp (config := { maxSteps := 2000000 }) (disch := first | omega | rfl) only [sB, Nat.reduceEqDiff, reduceCtorEq, ld25, cl7, q4]
 refine (z40 rt5 w5).mono ?_
 rintro v H6 ⟨hx6, outB, ev, rfl, hoB, heB⟩
 have hry := hg.ready
 rw [hry] at hoB heB
 obtain rfl : ev = .nilIface := heB.rep
 obtain ⟨bta, btc, bsa, bsc, rfl⟩ := hoB.rep.eight
 have w6 := hx6.wf
 have n6 := hx6.next
 have g1 := hx6.get w5 g1
 have g2 := hx6.get w5 g2
 have g4 := hx6.get w5 g4
 try simp (config := { maxSteps := 2000000 }) (disch := first | omega | rfl) only [sB, dAlloc, Nat.reduceEqDiff, Nat.reduceAdd, one, reduceCtorEq, zr30, st30]
 obtain ⟨H7, e7, hx7, g5, hn7, w7⟩ := z0l w6 (.row zero8 30) (.row (eightT b.kind b.term bta btc bsa b.sub.length bsc) 30)
 simp only [e7]
 clear e7
 have g1 := hx7.get w6 g1
 have g2 := hx7.get w6 g2
 have g4 := hx7.get w6 g4
 have q1 := row8 g1
 have q5 := row8 g5
 have q4 := row6 g4
 have k57 := hx6.trans hx7
 have k37 := (hx4.trans hx5).trans k57
 (repeat refine EvC.seq ?_); refine EvC.reg ?_; simp (config := { maxSteps := 2000000 }) (disch := first | omega | rfl) only [sB, Nat.reduceEqDiff, reduceCtorEq, ld30, cl36, z8a, q1, q5]
 refine (z6k (Nat.lt_succ_self _) (hoB.rep.mono hx7 w6) (r3.mono k37 w3) w7).mono ?_
 rintro v H8 ⟨rfl, hx8⟩
 have g2 := hx8.get w7 g2
 have g4 := hx8.get w7 g4
 have q4 := row6 g4
 have w8 := hx8.wf
 have n8 := hx8.next
 have k58 := k57.trans hx8
 repeat' (first | refine EvC.seq ?_ | refine EvC.scope ?_ | refine EvC.block ?_ | (refine EvC.skip ?_; try simp only [z02]) | (refine EvC.exit ?_) | (refine EvC.ret ?_; try simp only [z01, z00]) | (refine EvC.reg ?_; simp (config := { maxSteps := 2000000 }) (disch := first | omega | rfl) only [sB, Nat.reduceEqDiff, reduceCtorEq, ld25, cl37, q4]) | (refine z0q ?_; simp (config := { maxSteps := 2000000 }) (disch := first | omega | rfl) only [sB, Nat.reduceEqDiff, reduceCtorEq, Bool.not_true, Bool.false_eq_true]) | (refine EvC.condT ?_ ?_; simp (config := { maxSteps := 2000000 }) (disch := first | omega | rfl) only [sB, Nat.reduceEqDiff, reduceCtorEq]; refine z04 ?_) | (refine EvC.condF ?_ ?_; simp (config := { maxSteps := 2000000 }) (disch := first | omega | rfl) only [sB, Nat.reduceEqDiff, reduceCtorEq]; refine z04 ?_))
 refine (z85 (rt5.mono k58 w5) hg.check w8).mono ?_
 rintro v H9 ⟨hx9, outO, rfl, hot⟩
 obtain ⟨a9, c9, zf1, rfl, -⟩ := hot.rep.six
 have g2 := hx9.get w8 g2
 have k39 := (k37.trans hx8).trans hx9
 have hx9' := hx.trans k39
 have n9 := hx9.next
 repeat' (first | refine EvC.seq ?_ | refine EvC.scope ?_ | refine EvC.block ?_ | (refine EvC.skip ?_) | (refine EvC.exit ?_) | (refine EvC.ret ?_; try simp only [z01, z00]) | (refine z0q ?_; simp (config := { maxSteps := 2000000 }) (disch := first | omega | rfl) only [sB, Nat.reduceAdd, one, st25, g2]))
 have hz := hx9'.pt (i := H.next + 1) (by omega) g2 (some (.row (six (toldB b) a9 c9) 25))
 refine z0f rfl (by simp only [sB, Nat.reduceEqDiff, reduceCtorEq] <;> rfl) (by simp only [sB, Nat.reduceAdd, cutC, ld25] <;> rfl) (by simp only [sG, Nat.reduceEqDiff, reduceCtorEq] <;> rfl) ⟨hz, _, rfl, hot.to fun n hn hl => ?_⟩
 have a1 := hn.1
 have a2 := (k37.trans hx8).next
 exact ⟨by rw [get_put, if_neg (by omega)], ⟨by omega, by rw [z07]; exact hl⟩, by rw [z07]; exact hl⟩
def RdC (H : Heap) (c : Cls) (cs : List Value) : Prop := ∃ ha hc ta tc a k, cs = fift c.head ha hc c.body.kind c.body.term ta tc a c.body.sub.length k c.vars ∧ RepT H c.head (six c.head ha hc) ∧ RepB H c.body (eightT c.body.kind c.body.term ta tc a c.body.sub.length k)
theorem RepC.rd {H : Heap} {S : Nat → Prop} {c : Cls} {cs : List Value} (h : RepC H S c cs) : RdC H c cs := by
 obtain ⟨ha, hc, ta, tc, a, k, h1, h2, h3⟩ := h
 exact ⟨ha, hc, ta, tc, a, k, h1, h2.rep, h3.rep⟩
theorem RdC.mono {H H' : Heap} {c : Cls} {cs : List Value} (h : RdC H c cs) (hx : HX H H') (hw : H.wf) : RdC H' c cs := by
 obtain ⟨ha, hc, ta, tc, a, k, h1, h2, h3⟩ := h
 exact ⟨ha, hc, ta, tc, a, k, h1, h2.mono hx hw, h3.mono hx hw⟩
set_option maxHeartbeats 8000000 in
theorem zag {c : Cls} {cs cs' : List Value} {H : Heap} (r : RdC H c cs) (r' : RdC H c cs') (hw : H.wf) :
  EvF Tryd.prog okT 16 [.agg ⟨cs⟩, .agg ⟨cs'⟩] H fun v H' => v = .bool true ∧ HX H H' := by
 obtain ⟨ha, hc, ta, tc, a, k, rfl, rh, rb⟩ := r
 obtain ⟨ha', hc', ta', tc', a', k', rfl, rh', rb'⟩ := r'
 refine EvF.enter rfl Tryd.func16 (by decide) rfl ?_
 (repeat refine EvC.seq ?_); refine EvC.reg ?_; simp (config := { maxSteps := 2000000 }) (disch := first | omega | rfl) only [sB, initTm, dBox, Nat.reduceEqDiff, Value.cells, one, reduceCtorEq]
 obtain ⟨H2, e2, hx2, g1, g2, hn2, hw2⟩ := new2 hw (.row (fift c.head ha hc c.body.kind c.body.term ta tc a c.body.sub.length k c.vars) 48) (.row (fift c.head ha' hc' c.body.kind c.body.term ta' tc' a' c.body.sub.length k' c.vars) 48)
 simp only [e2]
 clear e2
 have q1 := z1f g1
 have q2 := z1f g2
 (repeat refine EvC.seq ?_); refine EvC.reg ?_; simp (config := { maxSteps := 2000000 }) (disch := first | omega | rfl) only [sB, Nat.reduceEqDiff, reduceCtorEq, z8x, ld25, cl12, q1, q2]
 refine (z90 (rh.mono hx2 hw) (rh'.mono hx2 hw) hw2).mono ?_
 rintro v H3 ⟨rfl, hx3⟩
 have g1 := hx3.get hw2 g1
 have g2 := hx3.get hw2 g2
 have hx := hx2.trans hx3
 have q1 := z1f g1
 have q2 := z1f g2
 try simp (config := { maxSteps := 2000000 }) (disch := first | omega | rfl) only []
 (repeat refine EvC.seq ?_); refine EvC.reg ?_; simp (config := { maxSteps := 2000000 }) (disch := first | omega | rfl) only [sB, Nat.reduceEqDiff, reduceCtorEq, zet, ld30, cl9, q1, q2]
 refine (z89 (Nat.lt_succ_self _) (rb.mono hx hw) (rb'.mono hx hw) hx.wf).mono ?_
 rintro v H4 ⟨rfl, hx4⟩
 have q1 := z1f (hx4.get hx.wf g1)
 have q2 := z1f (hx4.get hx.wf g2)
 repeat' (first | refine EvC.seq ?_ | refine EvC.scope ?_ | refine EvC.block ?_ | (refine EvC.skip ?_) | (refine EvC.exit ?_) | (refine EvC.ret ?_; try simp only [z01, z00]) | (refine EvC.reg ?_; simp (config := { maxSteps := 2000000 }) (disch := first | omega | rfl) only [sB, Nat.reduceEqDiff, reduceCtorEq, zm4, ld3, q1, q2, zl0 rfl, z0r rfl]))
 exact z06 rfl (by simp only [sG, Nat.reduceEqDiff, reduceCtorEq] <;> rfl) ⟨rfl, hx.trans hx4⟩
theorem RepT.whole {H : Heap} {c : Cls} {b : Nat} {a1 a2 : Option Addr} {c1 c2 : Nat} (hw : H.wf) (r1 : RepT H c.head (six c.head a1 c1)) (r2 : RepT H (toldB c.body) (six (toldB c.body) a2 c2)) (g : H.get b = some (.row (six c.head a1 c1 ++ six (toldB c.body) a2 c2) 25)) :
  RepT H (wholeC c) (six (wholeC c) (some ⟨b, 0, none⟩) 2) := (z5o (S := fun n => n < H.next) (by decide) g (hw _ _ g) hw (RepT.toS hw r1) (RepT.toS hw r2)).rep
set_option maxHeartbeats 8000000 in
theorem zcj {c : Cls} {cs : List Value} {H : Heap} (hg : GoodC c) (r : RdC H c cs) (hw : H.wf) :
  EvF Tryd.prog okT 17 [.agg ⟨cs⟩] H fun v H' => v = .int .i64 0 ∧ HX H H' := by
 obtain ⟨ha, hc, ta, tc, a, k, rfl, rh, rb⟩ := r
 refine EvF.enter rfl Tryd.func17 (by decide) rfl ?_
 (repeat refine EvC.seq ?_); refine EvC.reg ?_; simp (config := { maxSteps := 2000000 }) (disch := first | omega | rfl) only [sB, initTm, dBox, Value.cells, one]
 obtain ⟨H2, e2, hx2, g1, hn2, hw2⟩ := new1 hw (.row (fift c.head ha hc c.body.kind c.body.term ta tc a c.body.sub.length k c.vars) 48)
 simp only [e2]
 clear e2
 have q1 := z1f g1
 (repeat refine EvC.seq ?_); refine EvC.reg ?_; simp (config := { maxSteps := 2000000 }) (disch := first | omega | rfl) only [sB, Nat.reduceEqDiff, reduceCtorEq, zet, ld30, cl13, q1]
 refine (zaf hg.good (rb.mono hx2 hw) hw2).mono ?_
 rintro v H3 ⟨hx3, out, rfl, hot⟩
 obtain ⟨ao, co, cellso, rfl, -⟩ := hot.rep.six
 have w3 := hx3.wf
 have n3 := hx3.next
 try simp (config := { maxSteps := 2000000 }) (disch := first | omega | rfl) only [sB, dAlloc, Nat.reduceEqDiff, Nat.reduceAdd, one, reduceCtorEq, zr25, st25]
 obtain ⟨H4, e4, hx4, g3, hn4, w4⟩ := z0l w3 (.row zero6 25) (.row (six (toldB c.body) ao co) 25)
 simp only [e4]
 clear e4
 have hx24 := hx3.trans hx4
 have hx := hx2.trans hx24
 have g1 := hx24.get hw2 g1
 have q1 := z1f g1
 have rt4 := hot.rep.mono hx4 w3
 (repeat refine EvC.seq ?_); refine EvC.reg ?_; simp (config := { maxSteps := 2000000 }) (disch := first | omega | rfl) only [sB, Nat.reduceEqDiff, reduceCtorEq, z8x, ld25, cl24, z1m rfl, q1]
 refine (z25 _ _ _ (rh.mono hx hw) w4).mono ?_
 rintro v H5 ⟨rfl, hx5⟩
 have g1 := hx5.get w4 g1
 have g3 := hx5.get w4 g3
 have q1 := z1f g1
 have q3 := row6 g3
 have hx' := hx.trans hx5
 have w5 := hx5.wf
 try simp (config := { maxSteps := 2000000 }) (disch := first | omega | rfl) only [sB, Nat.reduceEqDiff, reduceCtorEq, z1m hg.head]
 (repeat refine EvC.seq ?_); refine EvC.condF (by simp (config := { maxSteps := 2000000 }) (disch := first | omega | rfl) only [sB, Nat.reduceEqDiff, reduceCtorEq]) ?_; (try refine EvC.skip ?_); (try simp only [z02, z03])
 (repeat refine EvC.seq ?_); refine EvC.drw [([(0, 0), (1, 0)], some 2), ([(3, 0)], some 4), ([(5, 2), (6, 2)], none)] (by kernel_rfl) ?_; simp (config := { maxSteps := 2000000 }) (disch := first | omega | rfl) only [sD, sB, Nat.reduceEqDiff, Nat.reduceAdd, reduceCtorEq, z8x, ld25, cl28, isAlloc, isRead, reduceCtorEq, q1]
 have hb : HX H5 ⟨H5.next + 7, H5.t⟩ := (HX.refl w5).bump 7
 refine (z15 _ _ _ ((rh.mono hx' hw).mono hb w5) hb.wf).mono ?_
 rintro v H6 ⟨rfl, hx6⟩
 have k56 := hb.trans hx6
 have q36 := row6 (k56.get w5 g3)
 repeat' (first | refine EvC.seq ?_ | refine EvC.scope ?_ | refine EvC.block ?_ | (refine EvC.skip ?_) | (refine EvC.exit ?_) | (refine EvC.ret ?_; try simp only [z01, z00]) | (refine z0u ?_; simp (config := { maxSteps := 2000000 }) (disch := first | omega | rfl) only [sV, sD, sB, Nat.reduceEqDiff, reduceCtorEq, ld25, cl28, q3, q36, isAlloc, isRead, reduceCtorEq]))
 refine (z15 _ _ _ ((rt4.mono hx5 w4).mono k56 w5) hx6.wf).mono ?_
 rintro v H7 ⟨rfl, hx7⟩
 have k57 := k56.trans hx7
 have w7 := hx7.wf
 have g1 := k57.get w5 g1
 have g3 := k57.get w5 g3
 have q1 := z1f g1
 have q3 := row6 g3
 have hx7' := hx'.trans k57
 have cc1 := z8d c.head
 have cc2 := z8d (toldB c.body)
 have hf := hg.few
 have hd : decide ((cnt c.head 0 : Int) + (cnt (toldB c.body) 0 : Int) > 400) = false := decide_eq_false (by omega)
 repeat' (first | refine EvC.seq ?_ | refine EvC.scope ?_ | refine EvC.block ?_ | (refine EvC.skip ?_; try simp only [z02]) | (refine EvC.exit ?_) | (refine EvC.ret ?_; try simp only [z01, z00]) | (refine EvC.reg ?_; simp (config := { maxSteps := 2000000 }) (disch := first | omega | rfl) only [sB, Nat.reduceEqDiff, Nat.reduceAdd, Value.cells, one, reduceCtorEq, Nat.reduceLeDiff, layC, z8x, ld25, z7n, cl44, cl14, q1, q3]) | (refine z0u ?_; simp (config := { maxSteps := 2000000 }) (disch := first | omega | rfl) only [sD, sB, Nat.reduceEqDiff, Nat.reduceAdd, reduceCtorEq, z0c, hd, isAlloc, isRead, reduceCtorEq]) | (refine EvC.condT ?_ ?_; simp (config := { maxSteps := 2000000 }) (disch := first | omega | rfl) only [sB, Nat.reduceEqDiff, reduceCtorEq]; refine z04 ?_) | (refine EvC.condF ?_ ?_; simp (config := { maxSteps := 2000000 }) (disch := first | omega | rfl) only [sB, Nat.reduceEqDiff, reduceCtorEq]; refine z04 ?_))
 obtain ⟨H8, e8, hx8, g8, hn8, w8⟩ := new1 w7 (.row (six c.head ha hc ++ six (toldB c.body) ao co) 25)
 have e8' := e8
 simp only [six, List.cons_append, List.nil_append] at e8'
 simp only [e8']
 clear e8 e8'
 refine (z1y w8).mono ?_
 rintro v H9 ⟨rfl, hx9⟩
 have w9 := hx9.wf
 have k79 := hx8.trans hx9
 have hx9' := hx7'.trans k79
 have rh9 := rh.mono hx9' hw
 have rt9 := ((rt4.mono hx5 w4).mono k57 w5).mono k79 w7
 have rw9 : RepT H9 (wholeC c) (six (wholeC c) (some ⟨H7.next, 0, none⟩) 2) := RepT.whole w9 rh9 rt9 (hx9.get w8 g8)
 refine (zdh (m := ByteArray.empty) rw9 w9).mono ?_
 rintro v H10 ⟨hx10, csr, ev, rfl, hrc, her⟩
 rw [hg.read ByteArray.empty] at hrc her ⊢
 have hrc : RepC H10 (Rg H9.next H10.next) c csr := hrc
 have her : RepES H10 (Rg H9.next H10.next) .ok ev := her
 obtain rfl : ev = .nilIface := her.rep
 obtain ⟨ha', hc', ta', tc', a', k', rfl, rh', rb'⟩ := hrc.rd
 have w10 := hx10.wf
 try simp (config := { maxSteps := 2000000 }) (disch := first | omega | rfl) only [sB, dAlloc, Nat.reduceEqDiff, Nat.reduceAdd, one, reduceCtorEq, zr48, st48]
 obtain ⟨H11, e11, hx11, g6, hn11, w11⟩ := z0l w10 (.row zero15 48) (.row (fift c.head ha' hc' c.body.kind c.body.term ta' tc' a' c.body.sub.length k' c.vars) 48)
 simp only [e11]
 clear e11
 have k911 := hx10.trans hx11
 have k711 := k79.trans k911
 have g1 := k711.get w7 g1
 have q1 := z1f g1
 have q6 := z1f g6
 have hx11' := hx7'.trans k711
 have he0 : (ByteArray.empty.toList == (⟨#[]⟩ : ByteArray).toList) = true := z39 rfl
 (repeat refine EvC.seq ?_); refine EvC.reg ?_; simp (config := { maxSteps := 2000000 }) (disch := first | omega | rfl) only [sB, Nat.reduceEqDiff, reduceCtorEq, z8x, ld25, cl45, z8a, z2c, he0, Bool.not_true, q1, q6]
 refine (zfp (Nat.lt_succ_self _) (rh'.mono hx11 w10) (rh.mono hx11' hw) w11).mono ?_
 rintro v H12 ⟨rfl, hx12⟩
 have g1 := hx12.get w11 g1
 have g6 := hx12.get w11 g6
 have q1 := z1f g1
 have q6 := z1f g6
 have w12 := hx12.wf
 try simp (config := { maxSteps := 2000000 }) (disch := first | omega | rfl) only [sB, Nat.reduceEqDiff, reduceCtorEq, zet, ld30, cl36, Bool.not_true, q1, q6]
 refine (z6k (Nat.lt_succ_self _) ((rb'.mono hx11 w10).mono hx12 w11) ((rb.mono hx11' hw).mono hx12 w11) w12).mono ?_
 rintro v H13 ⟨rfl, hx13⟩
 have g1 := hx13.get w12 g1
 have g6 := hx13.get w12 g6
 have q1 := z1f g1
 have q6 := z1f g6
 repeat' (first | refine EvC.seq ?_ | refine EvC.scope ?_ | refine EvC.block ?_ | (refine EvC.skip ?_; try simp only [z02]) | (refine EvC.exit ?_) | (refine EvC.ret ?_; try simp only [z01, z00]) | (refine EvC.reg ?_; simp (config := { maxSteps := 2000000 }) (disch := first | omega | rfl) only [sA]) | (refine z0q ?_; simp (config := { maxSteps := 2000000 }) (disch := first | omega | rfl) only [sB, Nat.reduceEqDiff, reduceCtorEq, zm4, ld3, Bool.not_true, q1, q6, z1m rfl, Bool.false_eq_true]) | (refine EvC.condT ?_ ?_; simp (config := { maxSteps := 2000000 }) (disch := first | omega | rfl) only [sB, Nat.reduceEqDiff, reduceCtorEq]; refine z04 ?_) | (refine EvC.condF ?_ ?_; simp (config := { maxSteps := 2000000 }) (disch := first | omega | rfl) only [sB, Nat.reduceEqDiff, reduceCtorEq]; refine z04 ?_))
 exact z06 rfl (by simp only [sG, Nat.reduceEqDiff, reduceCtorEq] <;> rfl) ⟨rfl, (hx11'.trans hx12).trans hx13⟩
set_option maxHeartbeats 8000000 in
theorem zjx {c : Cls} {cs : List Value} {H : Heap} (hg : GoodC c) (r : RdC H c cs) (hw : H.wf) :
  EvF Tryd.prog okT 15 [.agg ⟨cs⟩] H fun v H' => HX H H' ∧ ∃ a n, v = .tuple ⟨[.agg ⟨six (wholeC c) a n⟩, .int .i64 0]⟩ ∧ RepT H' (wholeC c) (six (wholeC c) a n) := by
 have r0 := r
 obtain ⟨ha, hc, ta, tc, a, k, rfl, rh, rb⟩ := r
 refine EvF.enter rfl Tryd.func15 (by decide) rfl ?_
 (repeat refine EvC.seq ?_); refine EvC.reg ?_; simp (config := { maxSteps := 2000000 }) (disch := first | omega | rfl) only [sB, initTm, dBox, dAlloc, Value.cells, one, zr25]
 obtain ⟨H2, e2, hx2, g1, g2, hn2, hw2⟩ := new2 hw (.row (fift c.head ha hc c.body.kind c.body.term ta tc a c.body.sub.length k c.vars) 48) (.row zero6 25)
 simp only [e2]
 clear e2
 have q1 := z1f g1
 (repeat refine EvC.seq ?_); refine EvC.reg ?_; simp (config := { maxSteps := 2000000 }) (disch := first | omega | rfl) only [sB, Nat.reduceEqDiff, reduceCtorEq, ld48, cl17, q1]
 refine (zcj hg (r0.mono hx2 hw) hw2).mono ?_
 rintro v H3 ⟨rfl, hx3⟩
 have g1 := hx3.get hw2 g1
 have g2 := hx3.get hw2 g2
 have hx := hx2.trans hx3
 have w3 := hx.wf
 have n3 := hx3.next
 have q1 := z1f g1
 try simp (config := { maxSteps := 2000000 }) (disch := first | omega | rfl) only []
 (repeat refine EvC.seq ?_); refine EvC.reg ?_; simp (config := { maxSteps := 2000000 }) (disch := first | omega | rfl) only [sB, Nat.reduceEqDiff, reduceCtorEq, z1m rfl]
 (repeat refine EvC.seq ?_); refine EvC.condF (by simp (config := { maxSteps := 2000000 }) (disch := first | omega | rfl) only [sB, Nat.reduceEqDiff, reduceCtorEq]) ?_; (try refine EvC.skip ?_); (try simp only [z02, z03])
 (repeat refine EvC.seq ?_); refine EvC.reg ?_; simp (config := { maxSteps := 2000000 }) (disch := first | omega | rfl) only [sB, Nat.reduceEqDiff, reduceCtorEq, zet, ld30, cl13, q1]
 refine (zaf hg.good (rb.mono hx hw) w3).mono ?_
 rintro v H4 ⟨hx4, out, rfl, hot⟩
 obtain ⟨ao, co, cellso, rfl, -⟩ := hot.rep.six
 have w4 := hx4.wf
 have n4 := hx4.next
 try simp (config := { maxSteps := 2000000 }) (disch := first | omega | rfl) only [sB, dAlloc, Nat.reduceEqDiff, Nat.reduceAdd, one, reduceCtorEq, zr25, st25]
 obtain ⟨H5, e5, hx5, g5, hn5, w5⟩ := z0l w4 (.row zero6 25) (.row (six (toldB c.body) ao co) 25)
 simp only [e5]
 clear e5
 have k35 := hx4.trans hx5
 have hx5' := hx.trans k35
 have g1 := k35.get w3 g1
 have g2 := k35.get w3 g2
 have q1 := z1f g1
 have q5 := row6 g5
 have rt5 := hot.rep.mono hx5 w4
 (repeat refine EvC.seq ?_); refine EvC.drw [([(0, 0), (1, 0)], some 2), ([(3, 0), (4, 1)], some 5), ([], some 6), ([(7, 3)], none)] (by kernel_rfl) ?_; simp (config := { maxSteps := 2000000 }) (disch := first | omega | rfl) only [sD, sB, Nat.reduceEqDiff, Nat.reduceAdd, reduceCtorEq, z8x, ld25, cl37, isAlloc, isRead, reduceCtorEq, q1]
 have hb : HX H5 ⟨H5.next + 8, H5.t⟩ := (HX.refl w5).bump 8
 refine (z85 ((rh.mono hx5' hw).mono hb w5) hg.head hb.wf).mono ?_
 rintro v H6 ⟨hx6, outO, rfl, hoo⟩
 obtain ⟨a6, c6, cells6, rfl, -⟩ := hoo.rep.six
 have k56 := hb.trans hx6
 have w6 := hx6.wf
 have n6 : H5.next + 8 ≤ H6.next := hx6.next
 have q56 := row6 (k56.get w5 g5)
 repeat' (first | refine EvC.seq ?_ | refine EvC.scope ?_ | refine EvC.block ?_ | (refine EvC.skip ?_) | (refine EvC.exit ?_) | (refine EvC.ret ?_; try simp only [z01, z00]) | (refine z0u ?_; simp (config := { maxSteps := 2000000 }) (disch := first | omega | rfl) only [sV, sD, sB, Nat.reduceEqDiff, Nat.reduceAdd, Value.cells, one, reduceCtorEq, Nat.reduceLeDiff, layC, ld25, z7n, cl44, q5, q56, isAlloc, isRead, dalloc, reduceCtorEq]))
 obtain ⟨H7, e7⟩ : ∃ H7, H6.put (H5.next + 4) (some (.row (six c.head a6 c6 ++ six (toldB c.body) ao co) 25)) = H7 := ⟨_, rfl⟩
 have hx57 : HX H5 H7 := by rw [← e7]; exact k56.put (i := H5.next + 4) (by omega) (by omega) _
 have n7 : H7.next = H6.next := by rw [← e7]; rfl
 have g7 : H7.get (H5.next + 4) = some (.row (six c.head a6 c6 ++ six (toldB c.body) ao co) 25) := by rw [← e7, get_put, if_pos rfl]
 have ho7 : OT H7 (Rg (H5.next + 8) H6.next) c.head (six c.head a6 c6) := hoo.to fun n hn hl => ⟨by have a1 : H5.next + 8 ≤ n := hn.1; rw [← e7, get_put, if_neg (by omega)], hn, by omega⟩
 have e7' := e7
 simp only [six, List.cons_append, List.nil_append] at e7'
 simp only [e7']
 clear e7 e7'
 have w7 := hx57.wf
 refine (z1y w7).mono ?_
 rintro v H8 ⟨rfl, hx8⟩
 have k58 := hx57.trans hx8
 have hx8' := hx5'.trans k58
 have g2 := k58.get w5 g2
 have n8 := hx8.next
 have w8 := hx8.wf
 have rw8 : RepT H8 (wholeC c) (six (wholeC c) (some ⟨H5.next + 4, 0, none⟩) 2) := RepT.whole w8 (ho7.rep.mono hx8 w7) (rt5.mono k58 w5) (hx8.get w7 g7)
 repeat' (first | refine EvC.seq ?_ | refine EvC.scope ?_ | refine EvC.block ?_ | (refine EvC.skip ?_) | (refine EvC.exit ?_) | (refine EvC.ret ?_; try simp only [z01, z00]) | (refine z0u ?_; simp (config := { maxSteps := 2000000 }) (disch := first | omega | rfl) only [sD, sB, Nat.reduceEqDiff, Nat.reduceAdd, one, reduceCtorEq, st25, g2, isAlloc, isRead, reduceCtorEq]))
 have hz := hx8'.pt (i := H.next + 1) (by omega) g2 (some (.row (six (wholeC c) (some ⟨H5.next + 4, 0, none⟩) 2) 25))
 refine z0f rfl (by simp only [sB, Nat.reduceEqDiff, reduceCtorEq] <;> rfl) (by simp only [sB, Nat.reduceAdd, cutC, ld25] <;> rfl) (by simp only [sG, Nat.reduceEqDiff, reduceCtorEq] <;> rfl) ⟨hz, _, _, rfl, ?_⟩
 have k48 := hx5.trans k58
 have o1 : OT (H8.put (H.next + 1) (some (.row (six (wholeC c) (some ⟨H5.next + 4, 0, none⟩) 2) 25))) (fun _ => True) c.head (six c.head a6 c6) := ho7.to fun n hn hl => ⟨by have a1 : H5.next + 8 ≤ n := hn.1; rw [get_put, if_neg (by omega)]; exact hx8.keep n hl, trivial, by rw [z07]; omega⟩
 have o2 : OT (H8.put (H.next + 1) (some (.row (six (wholeC c) (some ⟨H5.next + 4, 0, none⟩) 2) 25))) (fun _ => True) (toldB c.body) (six (toldB c.body) ao co) := hot.to fun n hn hl => ⟨by have a1 : H3.next ≤ n := hn.1; rw [get_put, if_neg (by omega)]; exact k48.keep n hl, trivial, by rw [z07]; have := k48.next; omega⟩
 exact RepT.whole hz.wf o1.rep o2.rep (by rw [get_put, if_neg (by omega)]; exact hx8.get w7 g7)
set_option maxHeartbeats 16000000 in
theorem zah {m : ByteArray} {t : Tm} {cs : List Value} {H : Heap} (r0 : RepT H t cs) (hw : H.wf) : EvF Tryd.prog okT 4 [.string m, .agg ⟨cs⟩] H fun v _ => v = .bool true := by
 obtain ⟨a, c, cells, rfl, -⟩ := r0.six
 refine EvF.enter rfl Tryd.func4 (by decide) rfl ?_
 (repeat refine EvC.seq ?_); refine EvC.reg ?_; simp (config := { maxSteps := 2000000 }) (disch := first | omega | rfl) only [sB, initTm, dBox, Value.cells, one, reduceCtorEq]
 obtain ⟨H1, e1, hx1, g1, hn1, w1⟩ := new1 hw (.row (six t a c) 25)
 simp only [e1]
 clear e1
 (repeat refine EvC.seq ?_); refine EvC.reg ?_; simp (config := { maxSteps := 2000000 }) (disch := first | omega | rfl) only [sB, Nat.reduceEqDiff, reduceCtorEq, cl5]
 refine (show EvF Tryd.prog okT 5 [] H1 _ from zki w1).mono ?_
 rintro v H2 ⟨rfl, k2⟩
 have g1 := k2.get w1 g1
 have hx2 := hx1.trans k2
 have w2 := hx2.wf
 have q1 := row6 g1
 try simp (config := { maxSteps := 2000000 }) (disch := first | omega | rfl) only []
 (repeat refine EvC.seq ?_); refine EvC.reg ?_; simp (config := { maxSteps := 2000000 }) (disch := first | omega | rfl) only [sB, Nat.reduceEqDiff, reduceCtorEq, ld25, cl7, q1]
 refine (z40 (r0.mono hx2 hw) w2).mono ?_
 rintro v H3 ⟨k3, outA, ea, rfl, hoA, heA⟩
 obtain ⟨ata, atc, asa, asc, rfl⟩ := hoA.rep.eight
 have w3 := k3.wf
 have g1 := k3.get w2 g1
 try simp (config := { maxSteps := 2000000 }) (disch := first | omega | rfl) only [sB, dAlloc, Nat.reduceEqDiff, Nat.reduceAdd, one, reduceCtorEq, zr30, st30]
 obtain ⟨H4, e4, k4, g6, hn4, w4⟩ := z0l w3 (.row zero8 30) (.row (eightT (readyS t).1.kind (readyS t).1.term ata atc asa (readyS t).1.sub.length asc) 30)
 simp only [e4]
 clear e4
 have g1 := k4.get w3 g1
 have hx4 := (hx2.trans k3).trans k4
 have hoA4 := hoA.rep.mono k4 w3
 obtain ⟨bb, hbb, e27⟩ : ∃ bb : Bool, (bb = true ↔ (readyS t).2 = .ok) ∧ ∀ n (H : Heap), dBin Tryd.prog .eql 32 (.tmp n) (.const .nilIface) ea .nilIface H = some (.val (.bool bb) H) := by
  by_cases hok : (readyS t).2 = .ok
  ·rw [hok] at heA
   obtain rfl : ea = .nilIface := heA.rep
   exact ⟨true, ⟨fun _ => hok, fun _ => rfl⟩, fun n H => zjo⟩
  ·obtain ⟨T0, x0, rfl⟩ := heA.rep.some hok
   exact ⟨false, ⟨fun h => (by cases h), fun h => absurd h hok⟩, fun n H => zmj⟩
 (repeat refine EvC.seq ?_); refine EvC.reg ?_; simp (config := { maxSteps := 2000000 }) (disch := first | omega | rfl) only [sB, Nat.reduceEqDiff, reduceCtorEq, e27]
 refine EvC.join (fun st => ∃ tm G, st = ⟨tm, [], G⟩ ∧ tm.get 0 = some (.string m) ∧ tm.get 3 = some (.pointer (some ⟨H.next, 0, none⟩)) ∧ tm.get 5 = some (.bool true) ∧ G.get H.next = some (.row (six t a c) 25) ∧ HX H G) ?_ ?_
 ·by_cases hok : (readyS t).2 = .ok
  rotate_left
  ·obtain rfl : bb = false := by
    cases bb with
    | false => rfl
    | true => exact absurd (hbb.1 rfl) hok
   (repeat refine EvC.seq ?_); refine EvC.condF (by simp (config := { maxSteps := 2000000 }) (disch := first | omega | rfl) only [sB, Nat.reduceEqDiff, reduceCtorEq]) ?_; (try refine EvC.skip ?_); (try simp only [z02, z03])
   exact ⟨_, _, rfl, (by simp only [sG, reduceCtorEq] <;> rfl), (by simp only [sG, Nat.reduceEqDiff, reduceCtorEq] <;> rfl), (by simp only [sG, Nat.reduceEqDiff, reduceCtorEq] <;> rfl), g1, hx4⟩
  have hg := zgw hok
  obtain rfl : bb = true := hbb.2 hok
  have q6 := row8 g6
  (repeat refine EvC.seq ?_); refine EvC.condT (by simp (config := { maxSteps := 2000000 }) (disch := first | omega | rfl) only [sB, Nat.reduceEqDiff, reduceCtorEq]) ?_; (try refine EvC.skip ?_); (try simp only [z02, z03])
  (repeat refine EvC.seq ?_); refine EvC.reg ?_; simp (config := { maxSteps := 2000000 }) (disch := first | omega | rfl) only [sB, Nat.reduceEqDiff, reduceCtorEq, ld30, cl13, q6]
  generalize (readyS t).1 = b at *
  refine (zaf hg hoA4 w4).mono ?_
  rintro v H5 ⟨k5, outT, rfl, hot⟩
  obtain ⟨a5, c5, cells5, rfl, -⟩ := hot.rep.six
  have w5 := k5.wf
  have g1 := k5.get w4 g1
  have g6 := k5.get w4 g6
  try simp (config := { maxSteps := 2000000 }) (disch := first | omega | rfl) only [sB, dAlloc, Nat.reduceEqDiff, Nat.reduceAdd, one, reduceCtorEq, zr25, st25]
  obtain ⟨H6, e6, k6, g8, hn6, w6⟩ := z0l w5 (.row zero6 25) (.row (six (toldB b) a5 c5) 25)
  simp only [e6]
  clear e6
  have g1 := k6.get w5 g1
  have g6 := k6.get w5 g6
  have q8 := row6 g8
  (repeat refine EvC.seq ?_); refine EvC.reg ?_; simp (config := { maxSteps := 2000000 }) (disch := first | omega | rfl) only [sB, Nat.reduceEqDiff, reduceCtorEq, ld25, cl7, q8]
  refine (z40 (hot.rep.mono k6 w5) w6).mono ?_
  rintro v H7 ⟨k7, outB, eb, rfl, hoB, heB⟩
  rw [hg.ready] at hoB heB
  obtain rfl : eb = .nilIface := heB.rep
  obtain ⟨bta, btc, bsa, bsc, rfl⟩ := hoB.rep.eight
  have w7 := k7.wf
  have g1 := k7.get w6 g1
  have g6 := k7.get w6 g6
  try simp (config := { maxSteps := 2000000 }) (disch := first | omega | rfl) only [sB, dAlloc, Nat.reduceEqDiff, Nat.reduceAdd, one, reduceCtorEq, zr30, st30]
  obtain ⟨H8, e8, k8, g10, hn8, w8⟩ := z0l w7 (.row zero8 30) (.row (eightT b.kind b.term bta btc bsa b.sub.length bsc) 30)
  simp only [e8]
  clear e8
  have g1 := k8.get w7 g1
  have g6 := k8.get w7 g6
  have q6 := row8 g6
  have q10 := row8 g10
  have k48 := ((k5.trans k6).trans k7).trans k8
  (repeat refine EvC.seq ?_); refine EvC.reg ?_; simp (config := { maxSteps := 2000000 }) (disch := first | omega | rfl) only [sB, Nat.reduceEqDiff, reduceCtorEq, ld30, cl9, q6, q10]
  refine (z89 (Nat.lt_succ_self _) (hoB.rep.mono k8 w7) (hoA4.mono k48 w4) w8).mono ?_
  rintro v H9 ⟨rfl, k9⟩
  have g1 := k9.get w8 g1
  repeat' (first | refine EvC.seq ?_ | refine EvC.scope ?_ | refine EvC.block ?_ | (refine EvC.skip ?_; try simp only [z02]) | (refine EvC.exit ?_) | (refine EvC.ret ?_; try simp only [z01, z00]) | (refine EvC.reg ?_; simp (config := { maxSteps := 2000000 }) (disch := first | omega | rfl) only [sB, Nat.reduceEqDiff, reduceCtorEq, z1m rfl, z8a, Bool.not_true, Bool.false_eq_true]) | (refine EvC.condT ?_ ?_; simp (config := { maxSteps := 2000000 }) (disch := first | omega | rfl) only [sB, Nat.reduceEqDiff, reduceCtorEq]; refine z04 ?_) | (refine EvC.condF ?_ ?_; simp (config := { maxSteps := 2000000 }) (disch := first | omega | rfl) only [sB, Nat.reduceEqDiff, reduceCtorEq]; refine z04 ?_))
  exact ⟨_, _, rfl, (by simp only [sG, reduceCtorEq] <;> rfl), (by simp only [sG, Nat.reduceEqDiff, reduceCtorEq] <;> rfl), (by simp only [sG, Nat.reduceEqDiff, reduceCtorEq] <;> rfl), g1, (hx4.trans k48).trans k9⟩
 ·rintro st ⟨tm, G, rfl, t0, t3, t5, g1, hxG⟩
  simp only [z02]
  have wG := hxG.wf
  have q1 := row6 g1
  (repeat refine EvC.seq ?_); refine EvC.reg ?_; simp (config := { maxSteps := 2000000 }) (disch := first | omega | rfl) only [sB, Nat.reduceEqDiff, ld25, cl14, t0, t3, q1]
  refine (zdh (m := m) (r0.mono hxG hw) wG).mono ?_
  rintro v H3 ⟨k3, csr, ev, rfl, hrc, her⟩
  have w3 := k3.wf
  obtain ⟨⟨m1, d, e1⟩, hS⟩ : ∃ R, readS m t = R := ⟨_, rfl⟩
  rw [hS] at hrc her ⊢
  simp only at hrc her
  have hrd := hrc.rd
  obtain ⟨ha, hc, ta, tc, a', k', rfl, -, -⟩ := hrc.rd
  try simp (config := { maxSteps := 2000000 }) (disch := first | omega | rfl) only [sB, dAlloc, Nat.reduceEqDiff, Nat.reduceAdd, one, zr48, st48]
  obtain ⟨H4, e4, k4, g14, hn4, w4⟩ := z0l w3 (.row zero15 48) (.row (fift d.head ha hc d.body.kind d.body.term ta tc a' d.body.sub.length k' d.vars) 48)
  simp only [e4]
  clear e4
  have hrd4 := hrd.mono k4 w3
  by_cases hok : e1 = .ok
  rotate_left
  ·obtain ⟨T0, x0, rfl⟩ := her.rep.some hok
   repeat' (first | refine EvC.seq ?_ | refine EvC.scope ?_ | refine EvC.block ?_ | (refine EvC.skip ?_) | (refine EvC.exit ?_) | (refine EvC.ret ?_; try simp only [z01, z00]) | (refine EvC.reg ?_; simp (config := { maxSteps := 2000000 }) (disch := first | omega | rfl) only [sB, Nat.reduceEqDiff, zfl, t5]) | (refine EvC.condT ?_ ?_; simp (config := { maxSteps := 2000000 }) (disch := first | omega | rfl) only [sB, Nat.reduceEqDiff]; refine z04 ?_))
   exact z06 rfl (by simp only [sG, Nat.reduceEqDiff] <;> rfl) rfl
  subst hok
  obtain rfl : ev = .nilIface := her.rep
  have hg := zgy hS
  have q14 := z1f g14
  (repeat refine EvC.seq ?_); refine EvC.reg ?_; simp (config := { maxSteps := 2000000 }) (disch := first | omega | rfl) only [sB, Nat.reduceEqDiff, z8a]
  (repeat refine EvC.seq ?_); refine EvC.condF (by simp (config := { maxSteps := 2000000 }) (disch := first | omega | rfl) only [sB, Nat.reduceEqDiff]) ?_; (try refine EvC.skip ?_); (try simp only [z02, z03])
  (repeat refine EvC.seq ?_); refine EvC.reg ?_; simp (config := { maxSteps := 2000000 }) (disch := first | omega | rfl) only [sB, Nat.reduceEqDiff, ld48, cl15, q14]
  refine (zjx hg hrd4 w4).mono ?_
  rintro v H5 ⟨k5, aw, nw, rfl, rw5⟩
  have w5 := k5.wf
  have g14 := k5.get w4 g14
  try simp (config := { maxSteps := 2000000 }) (disch := first | omega | rfl) only [sB, dAlloc, Nat.reduceEqDiff, Nat.reduceAdd, one, zr25, st25]
  obtain ⟨H6, e6, k6, g15, hn6, w6⟩ := z0l w5 (.row zero6 25) (.row (six (wholeC d) aw nw) 25)
  simp only [e6]
  clear e6
  have g14 := k6.get w5 g14
  have q15 := row6 g15
  (repeat refine EvC.seq ?_); refine EvC.reg ?_; simp (config := { maxSteps := 2000000 }) (disch := first | omega | rfl) only [sB, Nat.reduceEqDiff, reduceCtorEq, ld25, cl14, t0, q15]
  refine (zdh (m := m) (rw5.mono k6 w5) w6).mono ?_
  rintro v H7 ⟨k7, csd, evd, rfl, hrcd, herd⟩
  rw [hg.read m] at hrcd herd ⊢
  have hrcd : RepC H7 (Rg H6.next H7.next) d csd := hrcd
  have herd : RepES H7 (Rg H6.next H7.next) .ok evd := herd
  obtain rfl : evd = .nilIface := herd.rep
  have hrdd := hrcd.rd
  obtain ⟨ha2, hc2, ta2, tc2, a2, k2', rfl, -, -⟩ := hrcd.rd
  have w7 := k7.wf
  have g14 := k7.get w6 g14
  try simp (config := { maxSteps := 2000000 }) (disch := first | omega | rfl) only [sB, dAlloc, Nat.reduceEqDiff, Nat.reduceAdd, one, zr48, st48]
  obtain ⟨H8, e8, k8, g18, hn8, w8⟩ := z0l w7 (.row zero15 48) (.row (fift d.head ha2 hc2 d.body.kind d.body.term ta2 tc2 a2 d.body.sub.length k2' d.vars) 48)
  simp only [e8]
  clear e8
  have g14 := k8.get w7 g14
  have q14 := z1f g14
  have q18 := z1f g18
  have k48 := ((k5.trans k6).trans k7).trans k8
  have he0 : (m.toList == m.toList) = true := z39 rfl
  (repeat refine EvC.seq ?_); refine EvC.reg ?_; simp (config := { maxSteps := 2000000 }) (disch := first | omega | rfl) only [sB, Nat.reduceEqDiff, reduceCtorEq, ld48, cl16, t0, z0r rfl, zjo, z1j, he0, q14, q18]
  refine (zag (hrd4.mono k48 w4) (hrdd.mono k8 w7) w8).mono ?_
  rintro v H9 ⟨rfl, k9⟩
  have g14 := k9.get w8 g14
  have q14 := z1f g14
  try simp (config := { maxSteps := 2000000 }) (disch := first | omega | rfl) only [sB, Nat.reduceEqDiff, ld48, cl17, q14]
  refine (zcj hg ((hrd4.mono k48 w4).mono k9 w8) k9.wf).mono ?_
  rintro v H10 ⟨rfl, k10⟩
  repeat' (first | refine EvC.seq ?_ | refine EvC.scope ?_ | refine EvC.block ?_ | (refine EvC.skip ?_) | (refine EvC.exit ?_) | (refine EvC.ret ?_; try simp only [z01, z00]) | (refine z0q ?_; simp (config := { maxSteps := 2000000 }) (disch := first | omega | rfl) only [sB, Nat.reduceEqDiff, z0r rfl]))
  exact z06 rfl (by simp only [sG, Nat.reduceEqDiff] <;> rfl) rfl
end Go.Proofs.hq
end

section
namespace Go.Hb
open Go Go.RowKit
section
variable {H : Type} {enc : TypeId × Value → H} {P : Program} {W : World} {sp : Nat → Bool} {fuel : Nat} {t e : TypeId} {cs : List Value} {d : DataW H} {ps : List MemPlace}
theorem zmn {k : IntKind} {n : Int} : ab P W (.int k n) = .int k n := rfl
theorem zck {s : ByteArray} : ab P W (.string s) = .string s := rfl
theorem zai {k : IntKind} (ht : P.underlying t = some (.int k)) (h : DataW.trod enc P W 0 sp true fuel t cs = some (d, ps)) : ∃ n, cs = [.int k n] ∧ (Lit.int k n).wf = true := by
 cases fuel with
 | zero => simp [DataW.trod] at h
 | succ m =>
  unfold DataW.trod at h
  rw [ht] at h
  split at h <;> simp_all
theorem z8e (ht : P.underlying t = some .string) (h : DataW.trod enc P W 0 sp true fuel t cs = some (d, ps)) : ∃ s : ByteArray, cs = [.string s] ∧ s.size ≤ maxLen := by
 cases fuel with
 | zero => simp [DataW.trod] at h
 | succ m =>
  unfold DataW.trod at h
  rw [ht] at h
  split at h <;> simp_all
theorem zgz (ht : P.underlying t = some (.slice e)) (h : DataW.trod enc P W 0 sp true fuel t cs = some (d, ps)) :
  cs = [.slice none 0 0] ∨ ∃ a len cap m, fuel = m + 1 ∧ cs = [.slice (some a) len cap] ∧ len ≤ cap ∧ cap ≤ maxLen ∧
   ∀ i, i < len → ∃ es d' ps', W.cells? 0 (a.add (i * P.cellsOf e)) (P.cellsOf e) = some es ∧ DataW.trod enc P W 0 sp true m e es = some (d', ps') := by
 cases fuel with
 | zero => simp [DataW.trod] at h
 | succ m =>
  unfold DataW.trod at h
  rw [ht] at h
  split at h <;> simp_all
  obtain ⟨⟨hl, hc⟩, h⟩ := h
  simp only [Option.bind_eq_some_iff, Option.map_eq_some_iff] at h
  obtain ⟨elems, he, _⟩ := h
  refine ⟨_, _, _, ⟨rfl, rfl, rfl⟩, hl, hc, fun i hi => ?_⟩
  have hlen := mapM_some_length he
  have := mapM_some_get he i i (by simp [hi])
  rw [List.getElem?_eq_getElem (by rw [hlen]; simpa using hi)] at this
  simp only [Option.bind_eq_some_iff] at this
  obtain ⟨es, h1, h2⟩ := this
  exact ⟨es, h1, _, _, h2⟩
theorem zdj {fs : Array Field} (ht : P.underlying t = some (.struct fs)) (h : DataW.trod enc P W 0 sp true fuel t cs = some (d, ps)) :
  ∃ m, fuel = m + 1 ∧ cs.length = P.cellsOf t ∧ ∀ (i : Nat) (f : Field), fs[i]? = some f → ∃ d' ps', DataW.trod enc P W 0 sp true m f.type ((cs.drop f.offset).take (P.cellsOf f.type)) = some (d', ps') := by
 cases fuel with
 | zero => simp [DataW.trod] at h
 | succ m =>
  unfold DataW.trod at h
  rw [ht] at h
  split at h <;> simp_all
  subst_vars
  obtain ⟨hl, xs, hx, _⟩ := h
  intro i f hf
  have hlen := mapM_some_length hx
  have := mapM_some_get hx i f (by simpa using hf)
  have hi := (Array.getElem?_eq_some_iff.1 hf).1
  rw [List.getElem?_eq_getElem (by rw [hlen]; simpa using hi)] at this
  exact ⟨_, _, this⟩
theorem zo1 (a : Addr) (i : Nat) : (a.add i).block = a.block := by unfold Addr.add; split <;> rfl
theorem zcl {a : Addr} {s i : Nat} {es : List Value} (hs : 0 < s) (h : W.cells? 0 (a.add (i * s)) s = some es) (hsp : a.spot = none) : (heapW P W).load ⟨a.block, a.off + i * s, none⟩ s = some (es.map (ab P W)) ∧ es.length = s ∧ a.block < W.heap.size := by
 obtain ⟨_, hl, hc⟩ := World.cells?_some h
 obtain ⟨b, o, sp⟩ := a
 obtain rfl : sp = none := hsp
 have hb := World.cells?_block h hs
 rw [zo1] at hb
 refine ⟨zg6 hs hl fun j v hj => ?_, hl, hb⟩
 have hjl : j < es.length := (List.getElem?_eq_some_iff.1 hj).1
 have := hc j (by omega)
 rw [add0, add0] at this
 rw [this]; exact hj
theorem zh0 {a : Addr} {s : Nat} {es : List Value} (hs : 0 < s) (h : W.cells? 0 (a.add (0 * s)) s = some es) : a.spot = none := by
 obtain ⟨_, hl, hc⟩ := World.cells?_some h
 have e0 : ∀ a : Addr, a.add 0 = a := fun a => by unfold Addr.add; simp
 have := hc 0 hs
 rw [Nat.zero_mul, e0, e0, List.getElem?_eq_getElem (by omega)] at this
 unfold World.cell? at this
 split at this
 ·split at this
  ·cases this
  ·rename_i hn; simpa using hn
 ·cases this
end
section
variable {H : Type} {enc : TypeId × Value → H} {P : Program} {W : World} {sp : Nat → Bool}
structure TermTypes (P : Program) (tT tS tI tG tU : TypeId) : Prop where
 fields : ∃ fs : Array Field, P.underlying tT = some (.struct fs) ∧ (fs.toList.map fun f => (f.offset, f.type)) = [(0, tI), (1, tG), (2, tG), (3, tU), (4, tI), (5, tS)]
 slice : P.underlying tS = some (.slice tT)
 int : P.underlying tI = some (.int .i64)
 str : P.underlying tG = some .string
 u64 : P.underlying tU = some (.int .u64)
 cT : P.cellsOf tT = 6
 cS : P.cellsOf tS = 1
 cI : P.cellsOf tI = 1
 cG : P.cellsOf tG = 1
 cU : P.cellsOf tU = 1
theorem z9d {n : Int} (h : (Lit.int .i64 n).wf = true) : i64 n := by
 unfold i64
 unfold Lit.wf at h
 simp [IntKind.min, IntKind.max, IntKind.bits, IntKind.signed] at h
 exact h
theorem zjy {n : Int} (h : (Lit.int .u64 n).wf = true) : u64 n := by
 unfold u64
 unfold Lit.wf at h
 simp [IntKind.min, IntKind.max, IntKind.bits, IntKind.signed] at h
 exact h
theorem z3r {cs : List Value} {o : Nat} {v : Value} (h : (cs.drop o).take 1 = [v]) : cs[o]? = some v := by
 have : ((cs.drop o).take 1)[0]? = some v := by rw [h]; rfl
 simpa [List.getElem?_take, List.getElem?_drop] using this
theorem zfq {cs : List Value} {a b c d e f : Value} (hl : cs.length = 6) (h0 : cs[0]? = some a) (h1 : cs[1]? = some b) (h2 : cs[2]? = some c) (h3 : cs[3]? = some d) (h4 : cs[4]? = some e) (h5 : cs[5]? = some f) : cs = [a, b, c, d, e, f] := by
 match cs, hl with
 | [_, _, _, _, _, _], _ => simp at h0 h1 h2 h3 h4 h5; simp [h0, h1, h2, h3, h4, h5]
theorem zdk {tT tS tI tG tU : TypeId} (T : TermTypes P tT tS tI tG tU) : ∀ (fuel : Nat) (cs : List Value) (d : DataW H) (ps : List MemPlace), DataW.trod enc P W 0 sp true fuel tT cs = some (d, ps) → ∃ t, RepT (heapW P W) t (cs.map (ab P W)) := by
 intro fuel
 induction fuel using Nat.strongRecOn with
 | _ fuel ih =>
 intro cs d ps h
 obtain ⟨fs, hf, hfs⟩ := T.fields
 obtain ⟨m, rfl, hl, hall⟩ := zdj hf h
 rw [T.cT] at hl
 have fld : ∀ i o u, ((fs.toList.map fun f => (f.offset, f.type)))[i]? = some (o, u) → P.cellsOf u = 1 → ∃ d' ps', DataW.trod enc P W 0 sp true m u ((cs.drop o).take 1) = some (d', ps') := fun i o u hi hu => by
  rw [List.getElem?_map, Option.map_eq_some_iff] at hi
  obtain ⟨f, hf1, hf2⟩ := hi
  obtain ⟨d', ps', hd⟩ := hall i f (by simpa using hf1)
  cases hf2
  rw [hu] at hd
  exact ⟨d', ps', hd⟩
 rw [hfs] at fld
 obtain ⟨d0, p0, t0⟩ := fld 0 0 tI rfl T.cI
 obtain ⟨d1, p1, t1⟩ := fld 1 1 tG rfl T.cG
 obtain ⟨d2, p2, t2⟩ := fld 2 2 tG rfl T.cG
 obtain ⟨d3, p3, t3⟩ := fld 3 3 tU rfl T.cU
 obtain ⟨d4, p4, t4⟩ := fld 4 4 tI rfl T.cI
 obtain ⟨d5, p5, t5⟩ := fld 5 5 tS rfl T.cS
 obtain ⟨k, h0, w0⟩ := zai T.int t0
 obtain ⟨s, h1, w1⟩ := z8e T.str t1
 obtain ⟨u, h2, w2⟩ := z8e T.str t2
 obtain ⟨b, h3, w3⟩ := zai T.u64 t3
 obtain ⟨v, h4, w4⟩ := zai T.int t4
 rcases zgz T.slice t5 with h5 | ⟨a, n, c, m', rfl, h5, hnc, hcm, hel⟩
 ·rw [zfq hl (z3r h0) (z3r h1) (z3r h2) (z3r h3) (z3r h4) (z3r h5)]
  exact ⟨.mk k s u b v [], .mk k s u b v [] none 0 (fun _ => []) (z9d w0) w1 w2 (zjy w3) (z9d w4) (Nat.zero_le _) (Nat.le_refl _) (Nat.zero_le _) (fun _ => ⟨rfl, rfl⟩) (fun i ad hi => by simp at hi) (fun i t ht => by simp at ht)⟩
 ·rw [zfq hl (z3r h0) (z3r h1) (z3r h2) (z3r h3) (z3r h4) (z3r h5)]
  rw [T.cT] at hel
  have hsp : 0 < n → a.spot = none := fun hn => by
   obtain ⟨es, _, _, he, _⟩ := hel 0 hn
   exact zh0 (by omega) he
  have key : ∀ i, ∃ t cells, i < n → (heapW P W).load ⟨a.block, a.off + i * 6, none⟩ 6 = some cells ∧ RepT (heapW P W) t cells := fun i => by
   by_cases hi : i < n
   ·obtain ⟨es, d', ps', he, ht⟩ := hel i hi
    obtain ⟨t, hr⟩ := ih m' (by omega) es d' ps' ht
    exact ⟨t, _, fun _ => ⟨(zcl (by omega) he (hsp (by omega))).1, hr⟩⟩
   ·exact ⟨.mk 0 s u 0 0 [], [], fun h => absurd h hi⟩
  obtain ⟨T', hT'⟩ := Classical.axiomOfChoice key
  obtain ⟨C, hC⟩ := Classical.axiomOfChoice hT'
  have hlen : ((List.range n).map T').length = n := by simp
  refine ⟨.mk k s u b v ((List.range n).map T'), ?_⟩
  by_cases hn : 0 < n
  ·have hbl : a.block < W.heap.size := by
    obtain ⟨es, _, _, he, _⟩ := hel 0 hn
    exact (zcl (P := P) (by omega) he (hsp hn)).2.2
   have hab : ab P W (.slice (some a) n c) = .slice (some a) ((List.range n).map T').length c := by
    unfold ab
    rw [hlen]
    simp only
    rw [if_pos ⟨hnc, hcm⟩, if_pos ⟨hsp hn, hbl⟩]
   simp only [List.map_cons, List.map_nil, zmn, zck, hab]
   refine .mk k s u b v _ (some a) c C (z9d w0) w1 w2 (zjy w3) (z9d w4) (by rw [hlen]; omega) (by rw [hlen]; exact hnc) hcm (fun h => by cases h) (fun i ad hi ha => ?_) (fun i t ht => ?_)
   ·cases ha
    rw [hlen] at hi
    exact ⟨hsp hn, (hC i hi).1⟩
   ·rw [List.getElem?_map, Option.map_eq_some_iff] at ht
    obtain ⟨j, hj, rfl⟩ := ht
    have hi : i < n := by have := (List.getElem?_eq_some_iff.1 hj).1; simpa using this
    rw [List.getElem?_range hi] at hj
    cases hj
    exact (hC i hi).2
  ·have hn0 : n = 0 := by omega
   subst hn0
   obtain ⟨a', hab⟩ : ∃ a', ab P W (.slice (some a) 0 c) = .slice (some a') 0 c := by
    unfold ab
    simp only
    rw [if_pos ⟨hnc, hcm⟩]
    split
    ·exact ⟨_, rfl⟩
    ·exact ⟨_, rfl⟩
   simp only [List.map_cons, List.map_nil, zmn, zck, hab, List.range_zero]
   exact .mk k s u b v [] (some a') c C (z9d w0) w1 w2 (zjy w3) (z9d w4) (Nat.zero_le _) hnc hcm (fun h => by cases h) (fun i ad hi => by simp at hi) (fun i t ht => by simp at ht)
end
end Go.Hb
end
