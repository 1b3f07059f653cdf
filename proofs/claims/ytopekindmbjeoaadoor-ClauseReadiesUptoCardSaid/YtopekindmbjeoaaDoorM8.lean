import Derived.Test.YtopekindmbjeoaaDoorM3
import Derived.Test.YtopekindmbjeoaaDoorM7
import Derived.Test.YtopekindmbjeoaaDoorM5
/- Lemmas on the program's own code, towards the laws of this folder, part 8. Conditions: as each lemma says. -/
section
namespace Go.Proofs.hq
open Go Go.RowKit Go.Hb
variable {ok : Ok}
set_option maxRecDepth 10000
attribute [local irreducible] LX LG EL STG SOP SGO SGD SAL SRD SEF SEG SLK SCK ES
set_option maxHeartbeats 8000000 in
theorem z7t {m : Nat} : ∀ {t : Bdy} {cs cs' : List Value} {H : Heap}, SizeOf.sizeOf t < m → RepB H t cs → RepB H t cs' → H.wf →
  EvF Tryd.prog okT 9 [.agg ⟨cs⟩, .agg ⟨cs'⟩] H fun v H' => v = .bool true ∧ HX H H' := by
 induction m with
 | zero => intro t cs cs' H h; omega
 | succ m ih =>
 intro t cs cs' H hsz r r' hw
 obtain ⟨ts, a, c, cells, rfl, hk, rt, rl⟩ := r.inv
 obtain ⟨ts', a', c', cells', rfl, -, rt', rl'⟩ := r'.inv
 obtain ⟨ta, tc, cellst, rfl, -⟩ := rt.inv
 obtain ⟨ta', tc', cellst', rfl, -⟩ := rt'.inv
 show EvF Tryd.prog okT 9 [.agg ⟨eightT t.kind t.term ta tc a t.sub.length c⟩, .agg ⟨eightT t.kind t.term ta' tc' a' t.sub.length c'⟩] H _
 refine EvF.enter rfl Tryd.func9 (by decide) rfl ?_
 (repeat refine EvC.seq ?_); refine EvC.reg ?_; simp (config := { maxSteps := 2000000 }) (disch := first | omega | rfl) only [sB, initTm, dBox, Nat.reduceEqDiff, Value.cells, one, reduceCtorEq]
 obtain ⟨H2, e2, hx2, gp, gq, hnx, hw2⟩ := new2 hw (.row (eightT t.kind t.term ta tc a t.sub.length c) 30) (.row (eightT t.kind t.term ta' tc' a' t.sub.length c') 30)
 simp only [e2]
 have q1 := row8 gp
 have q2 := row8 gq
 clear e2
 (repeat refine EvC.seq ?_); refine EvC.reg ?_; simp (config := { maxSteps := 2000000 }) (disch := first | omega | rfl) only [sB, Nat.reduceEqDiff, reduceCtorEq, z3s, ld25, cl12, q1, q2]
 refine (z5t (rt.mono hx2 hw) (rt'.mono hx2 hw) hw2).mono ?_
 rintro v H3 ⟨rfl, hx3⟩
 have gp3 := hx3.get hw2 gp
 have gq3 := hx3.get hw2 gq
 have q1 := row8 gp3
 have q2 := row8 gq3
 have hx := hx2.trans hx3
 have hm := rl.cap
 have hl := rl.len
 have hmx : t.sub.length ≤ 9223372036854775807 := Nat.le_trans hl (Nat.le_trans hm (by decide))
 repeat' (first | refine EvC.seq ?_ | refine EvC.scope ?_ | refine EvC.block ?_ | (refine EvC.skip ?_; try simp only [z02]) | (refine EvC.exit ?_) | (refine EvC.ret ?_; try simp only [z01, z00]) | (refine EvC.reg ?_; simp (config := { maxSteps := 2000000 }) (disch := first | omega | rfl) only [sB, Nat.reduceEqDiff, reduceCtorEq, z1m, ld3, z2c, ld28, ln28, q1, q2, zht rfl, z2g rfl, Bool.not_true, Bool.false_eq_true]) | (refine EvC.condT ?_ ?_; simp (config := { maxSteps := 2000000 }) (disch := first | omega | rfl) only [sB, Nat.reduceEqDiff, reduceCtorEq]; refine z06 ?_) | (refine EvC.condF ?_ ?_; simp (config := { maxSteps := 2000000 }) (disch := first | omega | rfl) only [sB, Nat.reduceEqDiff, reduceCtorEq]; refine z06 ?_))
 refine EvC.loop (fun k st => ∃ tm H' i, st = ⟨tm, [], H'⟩ ∧ k = t.sub.length - i ∧ i ≤ t.sub.length ∧ 
   tm.get 2 = some (.pointer (some ⟨H.next, 0, none⟩)) ∧ tm.get 3 = some (.pointer (some ⟨H.next + 1, 0, none⟩)) ∧ tm.get 6 = some (.int .i64 (i : Nat)) ∧
   H'.get H.next = some (.row (eightT t.kind t.term ta tc a t.sub.length c) 30) ∧ H'.get (H.next + 1) = some (.row (eightT t.kind t.term ta' tc' a' t.sub.length c') 30) ∧ HX H H') ?_ t.sub.length _ ?_
 ·rintro k st ⟨tm, H', i, rfl, rfl, hi, t2, t3, t6, gp', gq', hx'⟩
  have q1 := row8 gp'
  have q2 := row8 gq'
  by_cases hlt : i < t.sub.length
  ·obtain ⟨b, o, rfl, hld, hr1⟩ := rl.el hlt
   obtain ⟨b', o', rfl, hld', hr2⟩ := rl'.el hlt
   obtain ⟨ua, uc, va, vc, hc1⟩ := hr1.eight
   obtain ⟨ua', uc', va', vc', hc2⟩ := hr2.eight
   rw [hc1] at hr1 hld
   rw [hc2] at hr2 hld'
   have hld1 := hx'.load hw hld
   have hld2 := hx'.load hw hld'
   repeat' (first | refine EvC.seq ?_ | refine EvC.scope ?_ | refine EvC.block ?_ | (refine EvC.skip ?_; try simp only [z02]) | (refine EvC.exit ?_) | (refine EvC.ret ?_; try simp only [z01, z00]) | (refine EvC.reg ?_; simp (config := { maxSteps := 2000000 }) (disch := first | omega | rfl) only [sB, Nat.reduceEqDiff, z2c, ld28, ln28, t2, t6, q1, decl hlt]) | (refine EvC.drw [([(0, 0), (1, 0), (2, 0), (3, 0), (4, 0), (5, 0), (6, 0), (7, 0), (8, 0), (9, 0)], some 10), ([(11, 1)], none)] ?_ ?_; kernel_rfl; simp (config := { maxSteps := 2000000 }) (disch := first | omega | rfl) only [sD, sB, Nat.reduceEqDiff, Nat.reduceAdd, reduceCtorEq, z2c, ld28, ia28, ld30, cl9, t2, t3, t6, q1, q2, hld1, hld2, isAlloc, isRead, reduceCtorEq]) | (refine EvC.condT ?_ ?_; simp (config := { maxSteps := 2000000 }) (disch := first | omega | rfl) only [sB, Nat.reduceEqDiff]; refine z06 ?_))
   have hb := hx'.bump 12
   have hs := t.size _ (List.getElem_mem hlt)
   refine (ih (t := t.sub[i]) (by omega) (hr1.mono hb hw) (hr2.mono hb hw) hb.wf).mono ?_
   rintro v H4 ⟨rfl, hx4⟩
   have hx5 := hb.trans hx4
   repeat' (first | refine EvC.seq ?_ | refine EvC.scope ?_ | refine EvC.block ?_ | (refine EvC.skip ?_; try simp only [sA]) | (refine EvC.exit ?_) | (refine EvC.ret ?_; try simp only [z01, z00]) | (refine EvC.reg ?_; simp (config := { maxSteps := 2000000 }) (disch := first | omega | rfl) only [sB, Nat.reduceEqDiff, Bool.not_true, t6, z0c]) | (refine z1b ?_; simp (config := { maxSteps := 2000000 }) (disch := first | omega | rfl) only [sD, sB, Nat.reduceEqDiff, isAlloc, isRead]) | (refine EvC.condT ?_ ?_; simp (config := { maxSteps := 2000000 }) (disch := first | omega | rfl) only [sB, Nat.reduceEqDiff]; refine z06 ?_) | (refine EvC.condF ?_ ?_; simp (config := { maxSteps := 2000000 }) (disch := first | omega | rfl) only [sB, Nat.reduceEqDiff]; refine z06 ?_))
   exact ⟨t.sub.length - (i + 1), by omega, _, _, i + 1, rfl, rfl, by omega, (by simp only [sG, Nat.reduceEqDiff, t2] <;> rfl), (by simp only [sG, Nat.reduceEqDiff, t3] <;> rfl), (by simp only [sB, Nat.reduceEqDiff] <;> rfl), hx4.get hb.wf gp', hx4.get hb.wf gq', hx5⟩
  ·repeat' (first | refine EvC.seq ?_ | refine EvC.scope ?_ | refine EvC.block ?_ | (refine EvC.skip ?_) | (refine EvC.exit ?_; try simp only [sB]) | (refine EvC.ret ?_; try simp only [z01, z00]) | (refine EvC.reg ?_; simp (config := { maxSteps := 2000000 }) (disch := first | omega | rfl) only [sB, Nat.reduceEqDiff, z2c, ld28, ln28, t2, t6, q1, decn hlt]) | (refine EvC.condT ?_ ?_; simp (config := { maxSteps := 2000000 }) (disch := first | omega | rfl) only [sB, Nat.reduceEqDiff]; refine z06 ?_) | (refine EvC.condF ?_ ?_; simp (config := { maxSteps := 2000000 }) (disch := first | omega | rfl) only [sB, Nat.reduceEqDiff]; refine z06 ?_))
   exact z05 rfl (by simp only [sG, Nat.reduceEqDiff] <;> rfl) ⟨rfl, hx'⟩
 ·exact ⟨_, _, 0, rfl, rfl, by omega, (by simp only [sG, Nat.reduceEqDiff, reduceCtorEq] <;> rfl), (by simp only [sG, Nat.reduceEqDiff, reduceCtorEq] <;> rfl), (by simp only [sB, Nat.reduceEqDiff, reduceCtorEq] <;> rfl), gp3, gq3, hx⟩
abbrev mark8 : List Value := [.int .i64 (-1), .int .i64 0, .string ByteArray.empty, .string ByteArray.empty, .int .u64 0, .int .i64 0, .slice none 0 0, .slice none 0 0]
abbrev mark1 : List Value := [.int .i64 (-1), .string ByteArray.empty, .string ByteArray.empty, .int .u64 0, .int .i64 0, .slice none 0 0]
set_option maxHeartbeats 8000000 in
theorem zin {m : Nat} : ∀ {t : Bdy} {cs : List Value} {S : Nat → Prop} {H : Heap}, SizeOf.sizeOf t < m → OB H 30 25 S t cs → (∀ n, S n → n < H.next) → H.wf →
  EvF Tryd.prog okT 10 [.agg ⟨cs⟩] H fun _ H' => HK S H H' := by
 induction m with
 | zero => intro t cs S H h; omega
 | succ m ih =>
 intro u cs S H hsz hob hS hw
 cases hob with
 | leaf _ k t ts hk rs top =>
  obtain ⟨ta, tc, cellst, rfl, -, -, -, -, -, rl⟩ := rs.rep.six
  have hmx : t.args.length ≤ 9223372036854775807 := rl.max
  show EvF Tryd.prog okT 10 [.agg ⟨eightT k t ta tc none 0 0⟩] H _
  refine EvF.enter rfl Tryd.func10 (by decide) rfl ?_
  (repeat refine EvC.seq ?_); refine EvC.reg ?_; simp (config := { maxSteps := 2000000 }) (disch := first | omega | rfl) only [sB, initTm, dBox, Value.cells, one]
  obtain ⟨H2, e2, hx2, gp, hn2, hw2⟩ := new1 hw (.row (eightT k t ta tc none 0 0) 30)
  simp only [e2]
  clear e2
  (repeat refine EvC.seq ?_); refine EvC.reg ?_; simp (config := { maxSteps := 2000000 }) (disch := first | omega | rfl) only [sA]
  refine EvC.meet (fun st => ∃ tm H', st = ⟨tm, [], H'⟩ ∧ tm.get 1 = some (.pointer (some ⟨H.next, 0, none⟩)) ∧ H'.get H.next = some (.row (eightT k t ta tc none 0 0) 30) ∧ HK S H H') ?_ ?_
  ·rcases top with he | ⟨b, c, cells, hts, gb, hSb, hlb, hcl, hone⟩
   ·have he0 : t.args.length = 0 := by rw [he]; rfl
    have hd' : decide ((0 : Int) < (t.args.length : Int)) = false := decide_eq_false (by omega)
    have q1 := row8 gp
    refine EvC.block (EvC.loop1 ?_)
    repeat' (first | refine EvC.seq ?_ | refine EvC.scope ?_ | refine EvC.block ?_ | (refine EvC.skip ?_) | (refine EvC.exit ?_; try simp only [sB, reduceCtorEq]) | (refine EvC.ret ?_; try simp only [z01, z00]) | (refine EvC.reg ?_; simp (config := { maxSteps := 2000000 }) (disch := first | omega | rfl) only [sB, Nat.reduceEqDiff, Nat.reduceAdd, reduceCtorEq, z3s, z0o, ld23, ln23, q1, hd']) | (refine EvC.condT ?_ ?_; simp (config := { maxSteps := 2000000 }) (disch := first | omega | rfl) only [sB, Nat.reduceEqDiff, reduceCtorEq]; refine z06 ?_) | (refine EvC.condF ?_ ?_; simp (config := { maxSteps := 2000000 }) (disch := first | omega | rfl) only [sB, Nat.reduceEqDiff, reduceCtorEq]; refine z06 ?_))
    exact ⟨_, _, rfl, (by simp only [sG, Nat.reduceEqDiff, reduceCtorEq] <;> rfl), gp, hx2.hk S⟩
   ·obtain ⟨-, -, -, -, -, hta, htc⟩ := z7l hts
    subst hta htc
    refine EvC.block (EvC.loop (fun k' st => ∃ tm H' i cells', st = ⟨tm, [], H'⟩ ∧ k' = t.args.length - i ∧ i ≤ t.args.length ∧ tm.get 1 = some (.pointer (some ⟨H.next, 0, none⟩)) ∧ tm.get 2 = some (.int .i64 (i : Nat)) ∧
     H'.get H.next = some (.row (eightT k t (some ⟨b, 0, none⟩) tc none 0 0) 30) ∧ H'.get b = some (.row cells' 25) ∧ t.args.length * 6 ≤ cells'.length ∧ HK S H H') ?_ t.args.length _ ?_)
    ·rintro k' st ⟨tm, H', i, cells', rfl, rfl, hi, t1, t2, gp', gb', hcl', hk'⟩
     have q1 := row8 gp'
     by_cases hlt : i < t.args.length
     ·have hle : i * 6 + 6 ≤ cells'.length := by have := mul6 hlt; omega
      repeat' (first | refine EvC.seq ?_ | refine EvC.scope ?_ | refine EvC.block ?_ | (refine EvC.skip ?_; try simp only [z02]) | (refine EvC.exit ?_) | (refine EvC.ret ?_; try simp only [z01, z00]) | (refine EvC.reg ?_; simp (config := { maxSteps := 2000000 }) (disch := first | omega | rfl) only [sB, Nat.reduceEqDiff, Nat.reduceAdd, Value.cells, one, Nat.reduceLeDiff, layC, z3s, z0o, ld23, ln23, bd25, ia23, st25, t1, t2, q1, decl hlt, gb', hle, z0c]) | (refine EvC.condT ?_ ?_; simp (config := { maxSteps := 2000000 }) (disch := first | omega | rfl) only [sB, Nat.reduceEqDiff]; refine z06 ?_))
      refine ⟨t.args.length - (i + 1), by omega, _, _, i + 1, Hb.splice cells' (i * 6) mark1, rfl, rfl, by omega, (by simp only [sG, Nat.reduceEqDiff, t1] <;> rfl), (by simp only [sB, Nat.reduceEqDiff] <;> rfl), by rw [get_put, if_neg (by omega)]; exact gp', by rw [get_put, if_pos rfl], by rw [z1u (vs := mark1) hle]; exact hcl', hk'.put (.inl hSb) (hk'.wf _ _ gb') _⟩
     ·repeat' (first | refine EvC.seq ?_ | refine EvC.scope ?_ | refine EvC.block ?_ | (refine EvC.skip ?_) | (refine EvC.exit ?_; try simp only [sB, reduceCtorEq]) | (refine EvC.ret ?_; try simp only [z01, z00]) | (refine EvC.reg ?_; simp (config := { maxSteps := 2000000 }) (disch := first | omega | rfl) only [sB, Nat.reduceEqDiff, Nat.reduceAdd, z3s, z0o, ld23, ln23, t1, t2, q1, decn hlt]) | (refine EvC.condT ?_ ?_; simp (config := { maxSteps := 2000000 }) (disch := first | omega | rfl) only [sB, Nat.reduceEqDiff]; refine z06 ?_) | (refine EvC.condF ?_ ?_; simp (config := { maxSteps := 2000000 }) (disch := first | omega | rfl) only [sB, Nat.reduceEqDiff]; refine z06 ?_))
      exact ⟨_, _, rfl, (by simp only [sG, Nat.reduceEqDiff, t1] <;> rfl), gp', hk'⟩
    ·exact ⟨_, _, 0, cells, rfl, rfl, by omega, (by simp only [sG, Nat.reduceEqDiff, reduceCtorEq] <;> rfl), (by simp only [sB, Nat.reduceEqDiff, reduceCtorEq] <;> rfl), gp, hx2.get hw gb, hcl, hx2.hk S⟩
  ·rintro st ⟨tm, H', rfl, t1, gp', hk'⟩
   have q1 := row8 gp'
   have hd' : decide ((0 : Int) < ((0 : Nat) : Int)) = false := rfl
   (repeat refine EvC.seq ?_); refine EvC.reg ?_; simp (config := { maxSteps := 2000000 }) (disch := first | omega | rfl) only [sA]
   refine EvC.block (EvC.loop1 ?_)
   repeat' (first | refine EvC.seq ?_ | refine EvC.scope ?_ | refine EvC.block ?_ | (refine EvC.skip ?_) | (refine EvC.exit ?_; try simp only [sB]) | (refine EvC.ret ?_; try simp only [z01, z00]) | (refine EvC.reg ?_; simp (config := { maxSteps := 2000000 }) (disch := first | omega | rfl) only [sB, Nat.reduceEqDiff, z2c, ld28, ln28, t1, q1, hd']) | (refine EvC.condT ?_ ?_; simp (config := { maxSteps := 2000000 }) (disch := first | omega | rfl) only [sB, Nat.reduceEqDiff]; refine z06 ?_) | (refine EvC.condF ?_ ?_; simp (config := { maxSteps := 2000000 }) (disch := first | omega | rfl) only [sB, Nat.reduceEqDiff]; refine z06 ?_))
   exact z1n rfl hk'
 | node _ k t ts l b c cells Si hk rs he hlc hcm gb hSb hlb hcl hel hnb hsub hone =>
  obtain ⟨ta, tc, cellst, rfl, -, -, -, -, -, rl⟩ := rs.rep.six
  have hmx : l.length ≤ 9223372036854775807 := Nat.le_trans hlc (Nat.le_trans hcm (by decide))
  show EvF Tryd.prog okT 10 [.agg ⟨eightT k t ta tc (some ⟨b, 0, none⟩) l.length c⟩] H _
  refine EvF.enter rfl Tryd.func10 (by decide) rfl ?_
  (repeat refine EvC.seq ?_); refine EvC.reg ?_; simp (config := { maxSteps := 2000000 }) (disch := first | omega | rfl) only [sB, initTm, dBox, Value.cells, one]
  obtain ⟨H2, e2, hx2, gp, hn2, hw2⟩ := new1 hw (.row (eightT k t ta tc (some ⟨b, 0, none⟩) l.length c) 30)
  simp only [e2]
  clear e2
  (repeat refine EvC.seq ?_); refine EvC.reg ?_; simp (config := { maxSteps := 2000000 }) (disch := first | omega | rfl) only [sA]
  refine EvC.meet (fun st => ∃ tm, st = ⟨tm, [], H2⟩ ∧ tm.get 1 = some (.pointer (some ⟨H.next, 0, none⟩))) ?_ ?_
  ·have he0 : t.args.length = 0 := by rw [he]; rfl
   have hd' : decide ((0 : Int) < (t.args.length : Int)) = false := decide_eq_false (by omega)
   have q1 := row8 gp
   refine EvC.block (EvC.loop1 ?_)
   repeat' (first | refine EvC.seq ?_ | refine EvC.scope ?_ | refine EvC.block ?_ | (refine EvC.skip ?_) | (refine EvC.exit ?_; try simp only [sB, reduceCtorEq]) | (refine EvC.ret ?_; try simp only [z01, z00]) | (refine EvC.reg ?_; simp (config := { maxSteps := 2000000 }) (disch := first | omega | rfl) only [sB, Nat.reduceEqDiff, Nat.reduceAdd, reduceCtorEq, z3s, z0o, ld23, ln23, q1, hd']) | (refine EvC.condT ?_ ?_; simp (config := { maxSteps := 2000000 }) (disch := first | omega | rfl) only [sB, Nat.reduceEqDiff, reduceCtorEq]; refine z06 ?_) | (refine EvC.condF ?_ ?_; simp (config := { maxSteps := 2000000 }) (disch := first | omega | rfl) only [sB, Nat.reduceEqDiff, reduceCtorEq]; refine z06 ?_))
   exact ⟨_, rfl, (by simp only [sG, Nat.reduceEqDiff, reduceCtorEq] <;> rfl)⟩
  ·rintro st ⟨tm, rfl, t1⟩
   (repeat refine EvC.seq ?_); refine EvC.reg ?_; simp (config := { maxSteps := 2000000 }) (disch := first | omega | rfl) only [sA]
   have sl := hx2.get hw gb
   refine EvC.block (EvC.loop (fun k' st => ∃ tm H' i cells', st = ⟨tm, [], H'⟩ ∧ k' = l.length - i ∧ i ≤ l.length ∧ tm.get 1 = some (.pointer (some ⟨H.next, 0, none⟩)) ∧ tm.get 3 = some (.int .i64 (i : Nat)) ∧
     H'.get H.next = some (.row (eightT k t ta tc (some ⟨b, 0, none⟩) l.length c) 30) ∧ H'.get b = some (.row cells' 30) ∧ l.length * 8 ≤ cells'.length ∧
     (∀ j, i ≤ j → j < l.length → (cells'.drop (j * 8)).take 8 = (cells.drop (j * 8)).take 8) ∧ (∀ j n, i ≤ j → j < l.length → Si j n → n < H.next → H'.get n = H.get n) ∧ HK S H H') ?_ l.length _ ?_)
   ·rintro k' st ⟨tm, H', i, cells', rfl, rfl, hi, t1, t3, gp', gb', hcl', hsame, hkeep, hk'⟩
    have q1 := row8 gp'
    by_cases hlt : i < l.length
    ·have hu := List.getElem?_eq_getElem hlt
     have hob1 := hel i _ hu
     obtain ⟨ua, uc, va, vc, hc1⟩ := hob1.rep.eight
     have hld : H'.load ⟨b, i * 8, none⟩ 8 = some (eightT l[i].kind l[i].term ua uc va l[i].sub.length vc) := by
      unfold Heap.load Heap.cells
      simp only [gb', hsame i (Nat.le_refl _) hlt, hc1]
      rfl
     have hle : i * 8 + 8 ≤ cells'.length := by omega
     repeat' (first | refine EvC.seq ?_ | refine EvC.scope ?_ | refine EvC.block ?_ | (refine EvC.skip ?_; try simp only [z02]) | (refine EvC.exit ?_) | (refine EvC.ret ?_; try simp only [z01, z00]) | (refine EvC.reg ?_; simp (config := { maxSteps := 2000000 }) (disch := first | omega | rfl) only [sB, Nat.reduceEqDiff, z2c, ld28, ln28, ia28, ld30, cl10, t1, t3, q1, decl hlt, hld]) | (refine EvC.condT ?_ ?_; simp (config := { maxSteps := 2000000 }) (disch := first | omega | rfl) only [sB, Nat.reduceEqDiff]; refine z06 ?_))
     have hs : SizeOf.sizeOf l[i] < SizeOf.sizeOf (Bdy.mk k t l) := Bdy.size _ _ (List.getElem_mem hlt)
     rw [hc1] at hob1
     have hob2 : OB H' 30 25 (Si i) l[i] _ := hob1.to (fun n hn hl => ⟨hkeep i n (Nat.le_refl _) hlt hn hl, Nat.lt_of_lt_of_le hl hk'.next⟩) fun n hn => hn
     refine (ih (t := l[i]) (by omega) hob2 (fun n hn => Nat.lt_of_lt_of_le (hS n (hsub i n hlt hn)) hk'.next) hk'.wf).mono ?_
     rintro v H5 hk5
     have gp5 := hk5.get hk'.wf gp' (fun hq => by have := hS _ (hsub i _ hlt hq); omega)
     have gb5 := hk5.get hk'.wf gb' (fun hq => hnb i hlt hq)
     have q2 := row8 gp5
     repeat' (first | refine EvC.seq ?_ | refine EvC.scope ?_ | refine EvC.block ?_ | (refine EvC.skip ?_) | (refine EvC.exit ?_) | (refine EvC.ret ?_; try simp only [z01, z00]) | (refine EvC.reg ?_; simp (config := { maxSteps := 2000000 }) (disch := first | omega | rfl) only [sB, Nat.reduceEqDiff, Nat.reduceAdd, Value.cells, one, Nat.reduceLeDiff, layC, z2c, ld28, ia28, bd30, st30, t1, t3, q2, gb5, hle, z0c]))
     refine ⟨l.length - (i + 1), by omega, _, _, i + 1, Hb.splice cells' (i * 8) mark8, rfl, rfl, by omega, (by simp only [sG, Nat.reduceEqDiff, t1] <;> rfl), (by simp only [sB, Nat.reduceEqDiff] <;> rfl), by rw [get_put, if_neg (by omega)]; exact gp5, by rw [get_put, if_pos rfl], by rw [z1u (vs := mark8) hle]; exact hcl', fun j hij hj => ?_, fun j n hij hj hn hl => ?_, (hk'.trans (hk5.sub fun n _ hn => hsub i n hlt hn)).put (.inl hSb) (hk5.wf _ _ gb5) _⟩
     ·rw [z2e (s := 8) hle rfl (.inr (by omega))]; exact hsame j (by omega) hj
     ·have hnb' : n ≠ b := fun e => hnb j hj (e ▸ hn)
      rw [get_put, if_neg hnb', hk5.keep n (Nat.lt_of_lt_of_le hl hk'.next) (fun hq => by have := hone i j n hlt hj hq hn; omega)]; exact hkeep j n (by omega) hj hn hl
    ·repeat' (first | refine EvC.seq ?_ | refine EvC.scope ?_ | refine EvC.block ?_ | (refine EvC.skip ?_) | (refine EvC.exit ?_; try simp only [sB]) | (refine EvC.ret ?_; try simp only [z01, z00]) | (refine EvC.reg ?_; simp (config := { maxSteps := 2000000 }) (disch := first | omega | rfl) only [sB, Nat.reduceEqDiff, z2c, ld28, ln28, t1, t3, q1, decn hlt]) | (refine EvC.condT ?_ ?_; simp (config := { maxSteps := 2000000 }) (disch := first | omega | rfl) only [sB, Nat.reduceEqDiff]; refine z06 ?_) | (refine EvC.condF ?_ ?_; simp (config := { maxSteps := 2000000 }) (disch := first | omega | rfl) only [sB, Nat.reduceEqDiff]; refine z06 ?_))
     exact z1n rfl hk'
   ·exact ⟨_, _, 0, cells, rfl, rfl, by omega, (by simp only [sG, Nat.reduceEqDiff, t1] <;> rfl), (by simp only [sB] <;> rfl), gp, sl, hcl, fun _ _ _ => rfl, fun j n _ hj hn hl => hx2.keep n hl, hx2.hk S⟩
end Go.Proofs.hq
end

section
namespace Go.Hb
open Go Go.RowKit
def dNilK (v : Value) (H : Heap) : Option Dr := match v with
 | .pointer (some a) => some (.val (.pointer (some a)) H)
 | .func (.func f) a b => some (.val (.func (.func f) a b) H)
 | _ => none
theorem zkb {P : Program} {H : Heap} {d : Option Tmp} {x : Operand} {ty : TypeId} {pos : String} {af : Array Edge} {g : Option (Nat × Bool)} {ρ : Operand → Value} : dop P ⟨d, .nilCheck x, ty, pos, af, g⟩ ρ H = dNilK (ρ x) H := _root_.id rfl
theorem zio {H : Heap} {a : Addr} : dNilK (.pointer (some a)) H = some (.val (.pointer (some a)) H) := _root_.id rfl
end Go.Hb
namespace Go.Proofs.hq
open Go Go.RowKit Go.Hb
variable {ok : Ok}
set_option maxRecDepth 10000
attribute [local irreducible] LX LG EL STG SOP SGO SGD SAL SRD SEF SEG SLK SCK ES
theorem zn1 : isPtr Tryd.prog 72 = true := by kernel_rfl
theorem zn2 {H : Heap} {x y : Operand} {a : Addr} : dBin Tryd.prog .neq 72 x y (.pointer (some a)) (.pointer none) H = some (.val (.bool true) H) := by
 simp only [dBin, dnil, zn1, nilEq, if_true]
theorem zn3 : taZ Tryd.prog 35 = some (.int .i64 0) := by kernel_rfl
theorem zod : taZ Tryd.prog 72 = some (.pointer none) := by kernel_rfl
theorem zoe {n : Nat} {H : Heap} : dBin Tryd.prog .eql 32 (.tmp n) (.const .nilIface) .nilIface .nilIface H = some (.val (.bool true) H) := by kernel_rfl
set_option maxHeartbeats 8000000 in
theorem ziq {e : Er} {v : Value} {S : Nat → Prop} {cs : List Value} {H : Heap} (he : RepE H e v) (h : RSaid H S e cs) (hw : H.wf) : EvF Tryd.prog okT 11 [v, .agg ⟨cs⟩] H fun v H' => v = .bool true ∧ HX H H' := by
 cases e with
 | ok =>
  obtain rfl : cs = said0 := h
  obtain rfl : v = .nilIface := he
  refine EvF.enter rfl Tryd.func11 (by decide) rfl ?_
  (repeat refine EvC.seq ?_); refine EvC.reg ?_; simp (config := { maxSteps := 2000000 }) (disch := first | omega | rfl) only [sB, initTm, dBox, Value.cells, one, reduceCtorEq]
  obtain ⟨H2, e2, hx2, gs, hn2, hw2⟩ := new1 hw (.row said0 37)
  simp only [e2]
  have qs := rowS gs
  repeat' (first | refine EvC.seq ?_ | refine EvC.scope ?_ | refine EvC.block ?_ | (refine EvC.skip ?_; try simp only [z02]) | (refine EvC.exit ?_) | (refine EvC.ret ?_; try simp only [z01, z00]) | (refine EvC.reg ?_; simp (config := { maxSteps := 2000000 }) (disch := first | omega | rfl) only [sB, Nat.reduceEqDiff, reduceCtorEq, zaw, ld4, zax, ld35, qs, z2g rfl, zoe]) | (refine EvC.condT ?_ ?_; simp (config := { maxSteps := 2000000 }) (disch := first | omega | rfl) only [sB, Nat.reduceEqDiff, reduceCtorEq]; refine z06 ?_) | (refine EvC.condF ?_ ?_; simp (config := { maxSteps := 2000000 }) (disch := first | omega | rfl) only [sB, Nat.reduceEqDiff, reduceCtorEq]; refine z06 ?_))
  exact z05 rfl (by simp only [sG, Nat.reduceEqDiff, reduceCtorEq] <;> rfl) ⟨rfl, hx2⟩
 | num e =>
  obtain ⟨hne, rfl⟩ := h
  obtain rfl : v = .iface 35 (.int .i64 e) := he
  refine EvF.enter rfl Tryd.func11 (by decide) rfl ?_
  (repeat refine EvC.seq ?_); refine EvC.reg ?_; simp (config := { maxSteps := 2000000 }) (disch := first | omega | rfl) only [sB, initTm, dBox, Value.cells, one, reduceCtorEq]
  obtain ⟨H2, e2, hx2, gs, hn2, hw2⟩ := new1 hw (.row [.int .i64 e, .bool false, .int .i64 0, .string ByteArray.empty, .string ByteArray.empty, .int .u64 0, .int .i64 0, .slice none 0 0] 37)
  simp only [e2]
  have qs := rowS gs
  repeat' (first | refine EvC.seq ?_ | refine EvC.scope ?_ | refine EvC.block ?_ | (refine EvC.skip ?_; try simp only [z02]) | (refine EvC.exit ?_) | (refine EvC.ret ?_; try simp only [z01, z00]) | (refine EvC.reg ?_; simp (config := { maxSteps := 2000000 }) (disch := first | omega | rfl) only [sB, Nat.reduceEqDiff, reduceCtorEq, zaw, ld4, zax, ld35, qs, z3o hne, z29, zcw zn3, z0j rfl]) | (refine EvC.condT ?_ ?_; simp (config := { maxSteps := 2000000 }) (disch := first | omega | rfl) only [sB, Nat.reduceEqDiff, reduceCtorEq]; refine z06 ?_) | (refine EvC.condF ?_ ?_; simp (config := { maxSteps := 2000000 }) (disch := first | omega | rfl) only [sB, Nat.reduceEqDiff, reduceCtorEq]; refine z06 ?_))
  exact z05 rfl (by simp only [sG, Nat.reduceEqDiff, reduceCtorEq] <;> rfl) ⟨rfl, hx2⟩
 | ball t =>
  obtain ⟨a, c, rfl, hr⟩ := h
  obtain ⟨p, a', c', rfl, gp, hr'⟩ := he
  refine EvF.enter rfl Tryd.func11 (by decide) rfl ?_
  (repeat refine EvC.seq ?_); refine EvC.reg ?_; simp (config := { maxSteps := 2000000 }) (disch := first | omega | rfl) only [sB, initTm, dBox, Value.cells, one, reduceCtorEq]
  obtain ⟨H2, e2, hx2, gs, hn2, hw2⟩ := new1 hw (.row (saidT 0 true t a c) 37)
  simp only [e2]
  have qs := rowS gs
  have qp := row6 (hx2.get hw gp)
  repeat' (first | refine EvC.seq ?_ | refine EvC.scope ?_ | refine EvC.block ?_ | (refine EvC.skip ?_) | (refine EvC.exit ?_) | (refine EvC.ret ?_; try simp only [z01, z00]) | (refine EvC.reg ?_; simp (config := { maxSteps := 2000000 }) (disch := first | omega | rfl) only [sB, Nat.reduceEqDiff, reduceCtorEq, zaw, ld4, qs, z29, zcw zod]) | (refine EvC.drw [([(0, 0), (1, 0), (2, 0), (3, 0), (4, 0), (5, 0), (6, 0), (7, 0), (8, 0), (9, 0), (10, 0), (11, 0)], some 12), ([(13, 1), (14, 1)], none)] ?_ ?_; kernel_rfl; simp (config := { maxSteps := 2000000 }) (disch := first | omega | rfl) only [sD, sB, Nat.reduceEqDiff, Nat.reduceAdd, reduceCtorEq, znd, ld25, zne, cl12, qs, qp, zn2, zkb, zio, isAlloc, isRead, reduceCtorEq]) | (refine EvC.condT ?_ ?_; simp (config := { maxSteps := 2000000 }) (disch := first | omega | rfl) only [sB, Nat.reduceEqDiff, reduceCtorEq]; refine z06 ?_))
  have hb : HX H ⟨H2.next + 15, H2.t⟩ := hx2.bump 15
  have hS : RepT H t (six t a c) := hr.rep
  refine (z5t (hr'.mono hb hw) (hS.mono hb hw) hb.wf).mono ?_
  rintro v H3 ⟨rfl, hx3⟩
  repeat' (first | refine EvC.seq ?_ | refine EvC.scope ?_ | refine EvC.block ?_ | (refine EvC.skip ?_) | (refine EvC.exit ?_) | (refine EvC.ret ?_; try simp only [z01, z00]) | (refine z1b ?_; simp (config := { maxSteps := 2000000 }) (disch := first | omega | rfl) only [sD, sB, Nat.reduceEqDiff, reduceCtorEq, zht rfl, isAlloc, isRead, reduceCtorEq]))
  exact z05 rfl (by simp only [sG, Nat.reduceEqDiff, reduceCtorEq] <;> rfl) ⟨rfl, hb.trans hx3⟩
end Go.Proofs.hq
end

section
namespace Go.Proofs.hq
open Go Go.RowKit Go.Hb
variable {ok : Ok}
set_option maxRecDepth 10000
attribute [local irreducible] LX LG EL STG SOP SGO SGD SAL SRD SEF SEG SLK SCK ES
set_option maxHeartbeats 8000000 in
theorem zd0 {cs : List Value} {H : Heap} (r : RepB H zeroB cs) (hw : H.wf) : EvF Tryd.prog okT 10 [.agg ⟨cs⟩] H fun _ H' => HX H H' := by
 obtain ⟨ts, a, c, cells, rfl, hk, rt, rl⟩ := r.inv
 obtain ⟨ta, tc, cellst, rfl, -⟩ := rt.inv
 show EvF Tryd.prog okT 10 [.agg ⟨eightT 0 zeroT ta tc a 0 c⟩] H _
 refine EvF.enter rfl Tryd.func10 (by decide) rfl ?_
 (repeat refine EvC.seq ?_); refine EvC.reg ?_; simp (config := { maxSteps := 2000000 }) (disch := first | omega | rfl) only [sB, initTm, dBox, Value.cells, one]
 obtain ⟨H2, e2, hx2, gp, hn2, hw2⟩ := new1 hw (.row (eightT 0 zeroT ta tc a 0 c) 30)
 simp only [e2]
 clear e2
 (repeat refine EvC.seq ?_); refine EvC.reg ?_; simp (config := { maxSteps := 2000000 }) (disch := first | omega | rfl) only [sA]
 have hd' : decide ((0 : Int) < ((0 : Nat) : Int)) = false := rfl
 have hd2 : decide ((0 : Int) < ((zeroT.args.length : Nat) : Int)) = false := rfl
 have q1 := row8 gp
 refine EvC.meet (fun st => ∃ tm, st = ⟨tm, [], H2⟩ ∧ tm.get 1 = some (.pointer (some ⟨H.next, 0, none⟩))) ?_ ?_
 ·refine EvC.block (EvC.loop1 ?_)
  repeat' (first | refine EvC.seq ?_ | refine EvC.scope ?_ | refine EvC.block ?_ | (refine EvC.skip ?_) | (refine EvC.exit ?_; try simp only [sB, reduceCtorEq]) | (refine EvC.ret ?_; try simp only [z01, z00]) | (refine EvC.reg ?_; simp (config := { maxSteps := 2000000 }) (disch := first | omega | rfl) only [sB, Nat.reduceEqDiff, Nat.reduceAdd, reduceCtorEq, z3s, z0o, ld23, ln23, q1, hd2]) | (refine EvC.condT ?_ ?_; simp (config := { maxSteps := 2000000 }) (disch := first | omega | rfl) only [sB, Nat.reduceEqDiff, reduceCtorEq]; refine z06 ?_) | (refine EvC.condF ?_ ?_; simp (config := { maxSteps := 2000000 }) (disch := first | omega | rfl) only [sB, Nat.reduceEqDiff, reduceCtorEq]; refine z06 ?_))
  exact ⟨_, rfl, (by simp only [sG, Nat.reduceEqDiff, reduceCtorEq] <;> rfl)⟩
 ·rintro st ⟨tm, rfl, t1⟩
  (repeat refine EvC.seq ?_); refine EvC.reg ?_; simp (config := { maxSteps := 2000000 }) (disch := first | omega | rfl) only [sA]
  refine EvC.block (EvC.loop1 ?_)
  repeat' (first | refine EvC.seq ?_ | refine EvC.scope ?_ | refine EvC.block ?_ | (refine EvC.skip ?_) | (refine EvC.exit ?_; try simp only [sB]) | (refine EvC.ret ?_; try simp only [z01, z00]) | (refine EvC.reg ?_; simp (config := { maxSteps := 2000000 }) (disch := first | omega | rfl) only [sB, Nat.reduceEqDiff, z2c, ld28, ln28, t1, q1, hd']) | (refine EvC.condT ?_ ?_; simp (config := { maxSteps := 2000000 }) (disch := first | omega | rfl) only [sB, Nat.reduceEqDiff]; refine z06 ?_) | (refine EvC.condF ?_ ?_; simp (config := { maxSteps := 2000000 }) (disch := first | omega | rfl) only [sB, Nat.reduceEqDiff]; refine z06 ?_))
  exact z1n rfl hx2
theorem zfx {t : Tm} (h : (readyS t).2 ≠ .ok) : (readyS t).1 = zeroB := by
 unfold readyS at h ⊢
 split
 ·rfl
 ·rename_i h1
  rw [if_neg h1] at h
  cases hb : bodyF (SizeOf.sizeOf t + 1) t with
  | none => rfl
  | some b =>
   rw [hb] at h
   simp only at h ⊢
   split
   ·rfl
   ·rename_i h2; rw [if_neg h2] at h; exact absurd rfl h
theorem zfy {t : Tm} {cs : List Value} {S : Nat → Prop} {ev : Value} {H : Heap} (ho : OB H 30 25 S (readyS t).1 cs) (he : RepES H S (readyS t).2 ev) (hS : ∀ n, S n → n < H.next) (hw : H.wf) :
  EvF Tryd.prog okT 10 [.agg ⟨cs⟩] H fun _ H' => HK S H H' ∧ RepE H' (readyS t).2 ev := by
 by_cases h : (readyS t).2 = .ok
 ·refine (zin (Nat.lt_succ_self _) ho hS hw).mono fun v H' hk => ⟨hk, ?_⟩
  rw [h] at he ⊢
  exact he.rep
 ·rw [zfx h] at ho
  exact (zd0 ho.rep hw).mono fun v H' hx => ⟨hx.hk S, he.rep.mono hx hw⟩
theorem zkc {H : Heap} (hw : H.wf) (A B C D : Blk) : ∃ H2, (((H.new (some A)).new (some B)).put H.next (some C)).put (H.next + 1) (some D) = H2 ∧ HX H H2 ∧ H2.get H.next = some C ∧ H2.get (H.next + 1) = some D ∧ H2.next = H.next + 2 ∧ H2.wf := by
 obtain ⟨H2, rfl, hx, h1, h2, h3, h4⟩ := new2 hw A B
 have hy := (hx.pt (i := H.next) (Nat.le_refl _) h1 (some C)).pt (i := H.next + 1) (by omega) (by rw [get_put, if_neg (by omega)]; exact h2) (some D)
 exact ⟨_, rfl, hy, by rw [get_put, if_neg (by omega), get_put, if_pos rfl], by rw [get_put, if_pos rfl], rfl, hy.wf⟩
set_option maxHeartbeats 8000000 in
theorem z69 {t : Tm} {cs : List Value} {H : Heap} (r0 : RepT H t cs) (hf : Few 1000000 t) (hw : H.wf) : EvF Tryd.prog okT 3 [.agg ⟨cs⟩] H fun v _ => v = .bool true := by
 obtain ⟨a, c, cells, rfl, -⟩ := r0.six
 refine EvF.enter rfl Tryd.func3 (by decide) rfl ?_
 (repeat refine EvC.seq ?_); refine EvC.reg ?_; simp (config := { maxSteps := 2000000 }) (disch := first | omega | rfl) only [sB, initTm, dBox, Value.cells, one]
 obtain ⟨H1, e1, hx1, g1, hn1, w1⟩ := new1 hw (.row (six t a c) 25)
 simp only [e1]
 clear e1
 (repeat refine EvC.seq ?_); refine EvC.reg ?_; simp (config := { maxSteps := 2000000 }) (disch := first | omega | rfl) only [sB, Nat.reduceEqDiff, reduceCtorEq, cl5]
 refine (show EvF Tryd.prog okT 5 [] H1 _ from zjc w1).mono ?_
 rintro v H2 ⟨rfl, k2⟩
 have q := row6 (k2.get w1 g1)
 have hx2 := hx1.trans k2
 have g1 := k2.get w1 g1
 try simp (config := { maxSteps := 2000000 }) (disch := first | omega | rfl) only []
 (repeat refine EvC.seq ?_); refine EvC.reg ?_; simp (config := { maxSteps := 2000000 }) (disch := first | omega | rfl) only [sB, dAlloc, Nat.reduceEqDiff, reduceCtorEq, ld25, cl6, zr25, q]
 refine (z4a (r0.mono hx2 hw) hf hx2.wf).mono ?_
 rintro v H3 ⟨k3, out, rfl, hot⟩
 obtain ⟨a3, c3, z8k, rfl, -⟩ := hot.rep.six
 have hx3 := hx2.trans k3
 have g1 := k3.get hx2.wf g1
 try simp (config := { maxSteps := 2000000 }) (disch := first | omega | rfl) only [sB, Nat.reduceAdd, one, st25]
 obtain ⟨H4, e4, k4, g4, hn4, w4⟩ := z0w hx3.wf (.row zero6 25) (.row (six t a3 c3) 25)
 simp only [e4]
 clear e4
 have w3 := hx3.wf
 have g1 := k4.get w3 g1
 have hx4 := hx3.trans k4
 have hot4 := hot.rep.mono k4 w3
 have q4 := row6 g4
 (repeat refine EvC.seq ?_); refine EvC.reg ?_; simp (config := { maxSteps := 2000000 }) (disch := first | omega | rfl) only [sB, Nat.reduceEqDiff, reduceCtorEq, ld25, cl7, q4]
 refine (zby hot4 w4).mono ?_
 rintro v H5 ⟨k5, outA, ea, rfl, hoA, heA⟩
 obtain ⟨ata, atc, asa, asc, rfl⟩ := hoA.rep.eight
 have g1 := k5.get w4 g1
 have g4 := k5.get w4 g4
 have w5 := k5.wf
 have n5 := k5.next
 try simp (config := { maxSteps := 2000000 }) (disch := first | omega | rfl) only [sB, dAlloc, Nat.reduceEqDiff, Nat.reduceAdd, one, reduceCtorEq, zr30, st30]
 obtain ⟨H6, e6, k6, g5, hn6, w6⟩ := z0w w5 (.row zero8 30) (.row (eightT (readyS t).1.kind (readyS t).1.term ata atc asa (readyS t).1.sub.length asc) 30)
 simp only [e6]
 clear e6
 have g1 := k6.get w5 g1
 have g4 := k6.get w5 g4
 have q4 := row6 g4
 have k46 := k5.trans k6
 have hx6 := hx4.trans k46
 have hot6 := hot4.mono k46 w4
 (repeat refine EvC.seq ?_); refine EvC.reg ?_; simp (config := { maxSteps := 2000000 }) (disch := first | omega | rfl) only [sB, Nat.reduceEqDiff, reduceCtorEq, ld25, cl7, q4]
 refine (zby hot6 w6).mono ?_
 rintro v H7 ⟨k7, outB, eb, rfl, hoB, heB⟩
 obtain ⟨bta, btc, bsa, bsc, rfl⟩ := hoB.rep.eight
 have g1 := k7.get w6 g1
 have g4 := k7.get w6 g4
 have g5 := k7.get w6 g5
 have w7 := k7.wf
 have n7 := k7.next
 try simp (config := { maxSteps := 2000000 }) (disch := first | omega | rfl) only [sB, dAlloc, Nat.reduceEqDiff, Nat.reduceAdd, one, reduceCtorEq, zr30, st30]
 obtain ⟨H8, e8, k8, g7, hn8, w8⟩ := z0w w7 (.row zero8 30) (.row (eightT (readyS t).1.kind (readyS t).1.term bta btc bsa (readyS t).1.sub.length bsc) 30)
 simp only [e8]
 clear e8
 have g1 := k8.get w7 g1
 have g4 := k8.get w7 g4
 have g5 := k8.get w7 g5
 have q1 := row6 g1
 have k68 := k7.trans k8
 have hx8 := hx6.trans k68
 have k48 := k46.trans k68
 (repeat refine EvC.seq ?_); refine EvC.reg ?_; simp (config := { maxSteps := 2000000 }) (disch := first | omega | rfl) only [sB, Nat.reduceEqDiff, reduceCtorEq, ld25, cl8, q1]
 refine (zim (r0.mono hx8 hw) w8).mono ?_
 rintro v H9 ⟨k9, outW, sd, rfl, hoW, hsd⟩
 obtain ⟨wta, wtc, wsa, wsc, rfl⟩ := hoW.rep.eight
 obtain ⟨en, ebb, et, sea, sec, rfl⟩ := hsd.cells
 have g1 := k9.get w8 g1
 have g4 := k9.get w8 g4
 have g5 := k9.get w8 g5
 have g7 := k9.get w8 g7
 have w9 := k9.wf
 have n9 := k9.next
 try simp (config := { maxSteps := 2000000 }) (disch := first | omega | rfl) only [sB, dAlloc, Nat.reduceEqDiff, Nat.reduceAdd, one, reduceCtorEq, zr30, st30, zr37, st37, neu, neu']
 obtain ⟨H10, e10, k10, g9, g10, hn10, w10⟩ := zkc w9 (.row zero8 30) (.row said0 37) (.row (eightT (readyS t).1.kind (readyS t).1.term wta wtc wsa (readyS t).1.sub.length wsc) 30) (.row (saidT en ebb et sea sec) 37)
 simp only [e10]
 clear e10
 have g1 := k10.get w9 g1
 have g4 := k10.get w9 g4
 have g5 := k10.get w9 g5
 have g7 := k10.get w9 g7
 have k8X := k9.trans k10
 have k6X := k68.trans k8X
 have q5 := row8 g5
 have q9 := row8 g9
 (repeat refine EvC.seq ?_); refine EvC.reg ?_; simp (config := { maxSteps := 2000000 }) (disch := first | omega | rfl) only [sB, Nat.reduceEqDiff, reduceCtorEq, ld30, cl9, q5, q9]
 refine (z7t (Nat.lt_succ_self _) (hoA.rep.mono (k6.trans k6X) w5) (hoW.rep.mono k10 w9) w10).mono ?_
 rintro v H11 ⟨rfl, k11⟩
 have g1 := k11.get w10 g1
 have g4 := k11.get w10 g4
 have g5 := k11.get w10 g5
 have g7 := k11.get w10 g7
 have g9 := k11.get w10 g9
 have g10 := k11.get w10 g10
 have w11 := k11.wf
 have n11 := k11.next
 have q5 := row8 g5
 try simp (config := { maxSteps := 2000000 }) (disch := first | omega | rfl) only []
 (repeat refine EvC.seq ?_); refine EvC.reg ?_; simp (config := { maxSteps := 2000000 }) (disch := first | omega | rfl) only [sB, Nat.reduceEqDiff, reduceCtorEq, ld30, cl10, q5]
 have k5E := (k6.trans k6X).trans k11
 have n5E := k5E.next
 have n6E := (k6X.trans k11).next
 refine (zfy (hoA.keep k5E) (heA.to fun n hn hl => ⟨k5E.keep n hl, hn, by omega⟩) (fun n hn => by have := hn.2; omega) w11).mono ?_
 rintro v H12 ⟨k12, heA12⟩
 have n3 := k3.next
 have n4 := k4.next
 have n6' := k6.next
 have n8' := k8.next
 have nX := hx4.next
 have o1 := hx1.next
 have o2 := k2.next
 have oE := (k10.trans k11).next
 have g1 := k12.get w11 g1 (fun h => by have := h.1; omega)
 have g4 := k12.get w11 g4 (fun h => by have := h.1; omega)
 have g7 := k12.get w11 g7 (fun h => by have := h.2; omega)
 have g9 := k12.get w11 g9 (fun h => by have := h.2; omega)
 have g10 := k12.get w11 g10 (fun h => by have := h.2; omega)
 have w12 := k12.wf
 have n12 := k12.next
 have k7E := (k8.trans k8X).trans k11
 have k9E := k10.trans k11
 have n7E := k7E.next
 have n9E := k9E.next
 have hoB12 := hoB.rep
 have hoB12 : OB H12 30 25 (Rg H6.next H7.next) (readyS t).1 _ := hoB.to (fun n hn hl => ⟨by rw [k12.keep n (by omega) (fun h => by have := h.2; have := hn.1; omega)]; exact k7E.keep n hl, by omega⟩) fun n hn => hn
 have hoW12 : OB H12 30 25 (Rg H8.next H9.next) (readyS t).1 _ := hoW.to (fun n hn hl => ⟨by rw [k12.keep n (by omega) (fun h => by have := h.2; have := hn.1; omega)]; exact k9E.keep n hl, by omega⟩) fun n hn => hn
 have heB12 : RepES H12 (Rg H6.next H7.next) (readyS t).2 eb := heB.to fun n hn hl => ⟨by rw [k12.keep n (by omega) (fun h => by have := h.2; have := hn.1; omega)]; exact k7E.keep n hl, hn, by omega⟩
 have hsd12 : RSaid H12 (Rg H8.next H9.next) (readyS t).2 _ := hsd.to fun n hn hl => ⟨by rw [k12.keep n (by omega) (fun h => by have := h.2; have := hn.1; omega)]; exact k9E.keep n hl, hn, by omega⟩
 have hx11 := (hx8.trans k8X).trans k11
 have hx12 : HX H H12 := hx11.then k12 fun n hn h => by have := h.1; omega
 have k3E := ((k4.trans k46).trans k6X).trans k11
 have hot12 : RepS H12 (Rg H2.next H3.next) t _ := hot.1.to fun n hn hl => ⟨by rw [k12.keep n (by have := k3E.next; omega) (fun h => by have := h.1; have := hn.2; omega)]; exact k3E.keep n hl, hn, by have := k3E.next; omega⟩
 have q7 := row8 g7
 have q9 := row8 g9
 try simp (config := { maxSteps := 2000000 }) (disch := first | omega | rfl) only []
 (repeat refine EvC.seq ?_); refine EvC.reg ?_; simp (config := { maxSteps := 2000000 }) (disch := first | omega | rfl) only [sB, Nat.reduceEqDiff, reduceCtorEq, ld30, cl9, q7, q9]
 refine (z7t (Nat.lt_succ_self _) hoB12.rep hoW12.rep w12).mono ?_
 rintro v H13 ⟨rfl, k13⟩
 have w13 := k13.wf
 have q10 := rowS (k13.get w12 g10)
 try simp (config := { maxSteps := 2000000 }) (disch := first | omega | rfl) only []
 (repeat refine EvC.seq ?_); refine EvC.reg ?_; simp (config := { maxSteps := 2000000 }) (disch := first | omega | rfl) only [sB, Nat.reduceEqDiff, reduceCtorEq, ld37, cl11, q10]
 refine (ziq (heA12.mono k13 w12) (hsd12.to fun n hn hl => ⟨k13.keep n hl, hn, Nat.lt_of_lt_of_le hl k13.next⟩) w13).mono ?_
 rintro v H14 ⟨rfl, k14⟩
 have kEE := k13.trans k14
 have w14 := k14.wf
 have q10 := rowS (kEE.get w12 g10)
 try simp (config := { maxSteps := 2000000 }) (disch := first | omega | rfl) only []
 (repeat refine EvC.seq ?_); refine EvC.reg ?_; simp (config := { maxSteps := 2000000 }) (disch := first | omega | rfl) only [sB, Nat.reduceEqDiff, reduceCtorEq, ld37, cl11, q10]
 refine (ziq (heB12.rep.mono kEE w12) (hsd12.to fun n hn hl => ⟨kEE.keep n hl, hn, Nat.lt_of_lt_of_le hl kEE.next⟩) w14).mono ?_
 rintro v H15 ⟨rfl, k15⟩
 have kFF := kEE.trans k15
 have q1 := row6 (kFF.get w12 g1)
 have q4 := row6 (kFF.get w12 g4)
 try simp (config := { maxSteps := 2000000 }) (disch := first | omega | rfl) only []
 (repeat refine EvC.seq ?_); refine EvC.reg ?_; simp (config := { maxSteps := 2000000 }) (disch := first | omega | rfl) only [sB, Nat.reduceEqDiff, reduceCtorEq, ld25, cl12, q1, q4]
 refine (z5t (hot12.rep.mono kFF w12) ((r0.mono hx12 hw).mono kFF w12) kFF.wf).mono ?_
 rintro v H16 ⟨rfl, k16⟩
 repeat' (first | refine EvC.seq ?_ | refine EvC.scope ?_ | refine EvC.block ?_ | (refine EvC.skip ?_) | (refine EvC.exit ?_) | (refine EvC.ret ?_; try simp only [z01, z00]))
 exact z05 rfl (by simp only [sB, Nat.reduceEqDiff, reduceCtorEq] <;> rfl) (by rw [zht rfl])
end Go.Proofs.hq
end

section
namespace Go.Hb
open Go Go.RowKit
section
variable {H : Type} {enc : TypeId × Value → H} {P : Program} {W : World} {sp : Nat → Bool} {fuel : Nat} {t e : TypeId} {cs : List Value} {d : DataW H} {ps : List MemPlace}
theorem zof {k : IntKind} {n : Int} : ab P W (.int k n) = .int k n := rfl
theorem zir {s : ByteArray} : ab P W (.string s) = .string s := rfl
theorem z9t {k : IntKind} (ht : P.underlying t = some (.int k)) (h : DataW.trod enc P W 0 sp true fuel t cs = some (d, ps)) : ∃ n, cs = [.int k n] ∧ (Lit.int k n).wf = true := by
 cases fuel with
 | zero => simp [DataW.trod] at h
 | succ m =>
  unfold DataW.trod at h
  rw [ht] at h
  split at h <;> simp_all
theorem z7u (ht : P.underlying t = some .string) (h : DataW.trod enc P W 0 sp true fuel t cs = some (d, ps)) : ∃ s : ByteArray, cs = [.string s] ∧ s.size ≤ maxLen := by
 cases fuel with
 | zero => simp [DataW.trod] at h
 | succ m =>
  unfold DataW.trod at h
  rw [ht] at h
  split at h <;> simp_all
theorem trod_slice (ht : P.underlying t = some (.slice e)) (h : DataW.trod enc P W 0 sp true fuel t cs = some (d, ps)) :
  cs = [.slice none 0 0] ∨ ∃ a len cap m, fuel = m + 1 ∧ cs = [.slice (some a) len cap] ∧ len ≤ cap ∧ cap ≤ maxLen ∧
   ∀ i, i < len → ∃ es d' ps', W.cells? 0 (a.add (i * P.cellsOf e)) (P.cellsOf e) = some es ∧ DataW.trod enc P W 0 sp true m e es = some (d', ps') := by
 cases fuel with
 | zero => simp [DataW.trod] at h
 | succ m =>
  unfold DataW.trod at h
  rw [ht] at h
  split at h <;> simp_all
  obtain ⟨⟨hl, hc⟩, h⟩ := h
  simp only [Option.bind_eq_some_iff, Option.map_eq_some_iff] at h
  obtain ⟨elems, he, _⟩ := h
  refine ⟨_, _, _, ⟨rfl, rfl, rfl⟩, hl, hc, fun i hi => ?_⟩
  have hlen := mapM_some_length he
  have := mapM_some_get he i i (by simp [hi])
  rw [List.getElem?_eq_getElem (by rw [hlen]; simpa using hi)] at this
  simp only [Option.bind_eq_some_iff] at this
  obtain ⟨es, h1, h2⟩ := this
  exact ⟨es, h1, _, _, h2⟩
theorem zn4 (a : Addr) (i : Nat) : (a.add i).block = a.block := by unfold Addr.add; split <;> rfl
theorem zbz {a : Addr} {s i : Nat} {es : List Value} (hs : 0 < s) (h : W.cells? 0 (a.add (i * s)) s = some es) (hsp : a.spot = none) : (heapW P W).load ⟨a.block, a.off + i * s, none⟩ s = some (es.map (ab P W)) ∧ es.length = s ∧ a.block < W.heap.size := by
 obtain ⟨_, hl, hc⟩ := World.cells?_some h
 obtain ⟨b, o, sp⟩ := a
 obtain rfl : sp = none := hsp
 have hb := World.cells?_block h hs
 rw [zn4] at hb
 refine ⟨zfb hs hl fun j v hj => ?_, hl, hb⟩
 have hjl : j < es.length := (List.getElem?_eq_some_iff.1 hj).1
 have := hc j (by omega)
 rw [add0, add0] at this
 rw [this]; exact hj
theorem zfz {a : Addr} {s : Nat} {es : List Value} (hs : 0 < s) (h : W.cells? 0 (a.add (0 * s)) s = some es) : a.spot = none := by
 obtain ⟨_, hl, hc⟩ := World.cells?_some h
 have e0 : ∀ a : Addr, a.add 0 = a := fun a => by unfold Addr.add; simp
 have := hc 0 hs
 rw [Nat.zero_mul, e0, e0, List.getElem?_eq_getElem (by omega)] at this
 unfold World.cell? at this
 split at this
 ·split at this
  ·cases this
  ·rename_i hn; simpa using hn
 ·cases this
end
section
variable {H : Type} {enc : TypeId × Value → H} {P : Program} {W : World} {sp : Nat → Bool}
structure TermTypes (P : Program) (tT tS tI tG tU : TypeId) : Prop where
 fields : ∃ fs : Array Field, P.underlying tT = some (.struct fs) ∧ (fs.toList.map fun f => (f.offset, f.type)) = [(0, tI), (1, tG), (2, tG), (3, tU), (4, tI), (5, tS)]
 slice : P.underlying tS = some (.slice tT)
 int : P.underlying tI = some (.int .i64)
 str : P.underlying tG = some .string
 u64 : P.underlying tU = some (.int .u64)
 cT : P.cellsOf tT = 6
 cS : P.cellsOf tS = 1
 cI : P.cellsOf tI = 1
 cG : P.cellsOf tG = 1
 cU : P.cellsOf tU = 1
theorem zeu {n : Int} (h : (Lit.int .i64 n).wf = true) : i64 n := by
 unfold i64
 unfold Lit.wf at h
 simp [IntKind.min, IntKind.max, IntKind.bits, IntKind.signed] at h
 exact h
theorem zli {n : Int} (h : (Lit.int .u64 n).wf = true) : u64 n := by
 unfold u64
 unfold Lit.wf at h
 simp [IntKind.min, IntKind.max, IntKind.bits, IntKind.signed] at h
 exact h
theorem z3n {cs : List Value} {o : Nat} {v : Value} (h : (cs.drop o).take 1 = [v]) : cs[o]? = some v := by
 have : ((cs.drop o).take 1)[0]? = some v := by rw [h]; rfl
 simpa [List.getElem?_take, List.getElem?_drop] using this
theorem zev {cs : List Value} {a b c d e f : Value} (hl : cs.length = 6) (h0 : cs[0]? = some a) (h1 : cs[1]? = some b) (h2 : cs[2]? = some c) (h3 : cs[3]? = some d) (h4 : cs[4]? = some e) (h5 : cs[5]? = some f) : cs = [a, b, c, d, e, f] := by
 match cs, hl with
 | [_, _, _, _, _, _], _ => simp at h0 h1 h2 h3 h4 h5; simp [h0, h1, h2, h3, h4, h5]
end
end Go.Hb
end

section
namespace Go.Hb
open Go Go.RowKit
section
variable {H : Type} {enc : TypeId × Value → H} {P : Program} {W : World} {sp : Nat → Bool}
end
end Go.Hb
end

section
namespace Go.Proofs.hq
open Go Go.RowKit Go.Hb
section
variable {H : Type} {enc : TypeId × Value → H} {P : Program} {W : World} {sp : Nat → Bool}
structure Wt (w : DataW H → Nat) : Prop where
 pos : ∀ d, 1 ≤ w d
 agg : ∀ ps, (ps.map w).sum + 1 ≤ w (.agg ps)
 slice : ∀ es rest, (es.map w).sum + 1 ≤ w (.slice es rest)
theorem z9u {fuel : Nat} {t : TypeId} {cs : List Value} {d : DataW H} {ps : List MemPlace} {fs : Array Field} (ht : P.underlying t = some (.struct fs)) (h : DataW.trod enc P W 0 sp true fuel t cs = some (d, ps)) :
  ∃ (m : Nat) (xs : List (DataW H × List MemPlace)), fuel = m + 1 ∧ cs.length = P.cellsOf t ∧ d = .agg (xs.map (·.1)) ∧ ∀ (i : Nat) (f : Field), fs[i]? = some f → ∃ x, xs[i]? = some x ∧ DataW.trod enc P W 0 sp true m f.type ((cs.drop f.offset).take (P.cellsOf f.type)) = some x := by
 cases fuel with
 | zero => simp [DataW.trod] at h
 | succ m =>
  unfold DataW.trod at h
  rw [ht] at h
  have h' : (if cs.length = P.cellsOf t then (fs.toList.mapM fun f => DataW.trod enc P W 0 sp true m f.type ((cs.drop f.offset).take (P.cellsOf f.type))).map fun xs => (DataW.agg (xs.map (·.1)), xs.flatMap (·.2)) else none) = some (d, ps) := by
   split at h <;> first | exact h | simp_all
  split at h'
  ·rename_i hl
   rw [Option.map_eq_some_iff] at h'
   obtain ⟨xs, hx, he⟩ := h'
   cases he
   refine ⟨m, xs, rfl, hl, rfl, fun i f hf => ?_⟩
   have hlen := mapM_some_length hx
   have := mapM_some_get hx i f (by simpa using hf)
   have hi := (Array.getElem?_eq_some_iff.1 hf).1
   have hix : i < xs.length := by rw [hlen]; simpa using hi
   rw [List.getElem?_eq_getElem hix] at this
   exact ⟨xs[i], List.getElem?_eq_getElem hix, this⟩
  ·cases h'
theorem zc0 {fuel : Nat} {t e : TypeId} {cs : List Value} {d : DataW H} {ps : List MemPlace} (ht : P.underlying t = some (.slice e)) (h : DataW.trod enc P W 0 sp true fuel t cs = some (d, ps)) :
  cs = [.slice none 0 0] ∨ ∃ (a : Addr) (cap m : Nat) (elems : List (DataW H × List MemPlace)) (rest : List (DataW H)), fuel = m + 1 ∧ cs = [.slice (some a) elems.length cap] ∧ elems.length ≤ cap ∧ cap ≤ maxLen ∧ d = .slice (elems.map (·.1)) rest ∧
   ∀ i x, elems[i]? = some x → ∃ es, W.cells? 0 (a.add (i * P.cellsOf e)) (P.cellsOf e) = some es ∧ DataW.trod enc P W 0 sp true m e es = some x := by
 rcases DataW.trod_slice ht h with ⟨h1, -⟩ | ⟨a, len, cap, elems, rest, n, rfl, rfl, hx, -, hl, hm, rfl, hel, -⟩
 ·exact .inl h1
 ·cases hx
  refine .inr ⟨a, cap, n, elems, _, rfl, rfl, hl, hm, rfl, fun i x hx => ?_⟩
  have hi := (List.getElem?_eq_some_iff.1 hx).1
  have := hel i hi
  rw [hx, Option.bind_eq_some_iff] at this
  exact this
theorem zd1 : nd.ndL [] = 0 := by rw [nd.ndL]
theorem z9v {t : Tm} {l : List Tm} : nd.ndL (t :: l) = nd t + nd.ndL l := by rw [nd.ndL]
theorem zog (t : Tm) : 1 ≤ nd t := by rw [z4q]; omega
theorem zis : ∀ l : List Tm, l.length ≤ nd.ndL l
 | [] => Nat.zero_le _
 | t :: l => by have := zis l; have := zog t; rw [z9v, List.length_cons]; omega
theorem zlj {w : DataW H → Nat} : ∀ (es : List (DataW H × List MemPlace)) (f : Nat → Tm), (∀ i x, es[i]? = some x → 7 * nd (f i) ≤ w x.1) → 7 * nd.ndL ((List.range es.length).map f) ≤ ((es.map (·.1)).map w).sum
 | [], f, _ => by simp [zd1]
 | x :: es, f, h => by
  have h0 := h 0 x rfl
  have ih := zlj (w := w) es (fun i => f (i + 1)) fun i y hy => h (i + 1) y hy
  rw [List.length_cons, List.range_succ_eq_map, List.map_cons, List.map_map, z9v, List.map_cons, List.map_cons, List.sum_cons]
  have e : (f ∘ Nat.succ) = fun i => f (i + 1) := rfl
  rw [e]; omega
theorem zkd {b : Nat} {B : Blk} (h : (heapW P W).get b = some B) : ∃ cs e, B = .ro cs e := by
 rw [z51] at h
 split at h
 ·unfold blkW at h
  split at h
  ·cases h; exact ⟨_, _, rfl⟩
  ·cases h
 ·cases h
theorem zn5 {b o n : Nat} {cs : List Value} (h : (heapW P W).load ⟨b, o, none⟩ n = some cs) : ∃ cs e, (heapW P W).get b = some (.ro cs e) := by
 cases hg : (heapW P W).get b with
 | none => unfold Heap.load Heap.cells at h; simp [hg] at h
 | some B => obtain ⟨cs, e, rfl⟩ := zkd hg; exact ⟨cs, e, rfl⟩
theorem zn6 {tT tS tI tG tU : TypeId} (T : TermTypes P tT tS tI tG tU) {w : DataW H → Nat} {a : Addr} {m cap : Nat} {elems : List (DataW H × List MemPlace)}
  (hnc : elems.length ≤ cap) (hcm : cap ≤ maxLen)
  (ih : ∀ (cs : List Value) (d : DataW H) (ps : List MemPlace), DataW.trod enc P W 0 sp true m tT cs = some (d, ps) → ∃ t, RepT (heapW P W) t (cs.map (ab P W)) ∧ 7 * nd t ≤ w d)
  (hel : ∀ i x, elems[i]? = some x → ∃ es, W.cells? 0 (a.add (i * P.cellsOf tT)) (P.cellsOf tT) = some es ∧ DataW.trod enc P W 0 sp true m tT es = some x) :
  ∃ l a' cells, ab P W (.slice (some a) elems.length cap) = .slice (some a') l.length cap ∧ RepL (heapW P W) l (some a') cap cells ∧ 7 * nd.ndL l ≤ ((elems.map (·.1)).map w).sum ∧ (0 < l.length → a'.spot = none ∧ ∃ cs e, (heapW P W).get a'.block = some (.ro cs e)) := by
 rw [T.cT] at hel
 have hsp : 0 < elems.length → a.spot = none := fun hn => by
  obtain ⟨es, he, _⟩ := hel 0 elems[0] (List.getElem?_eq_getElem hn)
  exact zfz (by omega) he
 have key : ∀ i, ∃ t cells, (∀ x, elems[i]? = some x → (heapW P W).load ⟨a.block, a.off + i * 6, none⟩ 6 = some cells ∧ RepT (heapW P W) t cells ∧ 7 * nd t ≤ w x.1) := fun i => by
  by_cases hi : i < elems.length
  ·obtain ⟨es, he, ht⟩ := hel i elems[i] (List.getElem?_eq_getElem hi)
   obtain ⟨t, hr, hwt⟩ := ih es elems[i].1 elems[i].2 ht
   exact ⟨t, _, fun x hx => by rw [List.getElem?_eq_getElem hi] at hx; cases hx; exact ⟨(zbz (by omega) he (hsp (by omega))).1, hr, hwt⟩⟩
  ·exact ⟨.mk 0 ByteArray.empty ByteArray.empty 0 0 [], [], fun x hx => absurd (List.getElem?_eq_some_iff.1 hx).1 hi⟩
 obtain ⟨T', hT'⟩ := Classical.axiomOfChoice key
 obtain ⟨C, hC⟩ := Classical.axiomOfChoice hT'
 have hlen : ((List.range elems.length).map T').length = elems.length := by simp
 have hsum := zlj (w := w) elems T' fun i x hx => (hC i x hx).2.2
 by_cases hn : 0 < elems.length
 ·have hbl : a.block < W.heap.size := by
   obtain ⟨es, he, _⟩ := hel 0 elems[0] (List.getElem?_eq_getElem hn)
   exact (zbz (P := P) (by omega) he (hsp hn)).2.2
  have hab : ab P W (.slice (some a) elems.length cap) = .slice (some a) ((List.range elems.length).map T').length cap := by
   unfold ab
   rw [hlen]
   simp only
   rw [if_pos ⟨hnc, hcm⟩, if_pos ⟨hsp hn, hbl⟩]
  refine ⟨(List.range elems.length).map T', a, C, hab, ⟨by rw [hlen]; exact hnc, hcm, fun h => (by cases h), fun i ad hi ha => ?_, fun i t ht => ?_⟩, hsum, fun _ => ⟨hsp hn, zn5 (hC 0 _ (List.getElem?_eq_getElem hn)).1⟩⟩
  ·cases ha
   rw [hlen] at hi
   exact ⟨hsp hn, (hC i _ (List.getElem?_eq_getElem hi)).1⟩
  ·rw [List.getElem?_map, Option.map_eq_some_iff] at ht
   obtain ⟨j, hj, rfl⟩ := ht
   have hi : i < elems.length := by have := (List.getElem?_eq_some_iff.1 hj).1; simpa using this
   rw [List.getElem?_range hi] at hj
   cases hj
   exact (hC i _ (List.getElem?_eq_getElem hi)).2.1
 ·have hn0 : elems.length = 0 := by omega
  obtain ⟨a', hab⟩ : ∃ a', ab P W (.slice (some a) elems.length cap) = .slice (some a') 0 cap := by
   unfold ab
   simp only
   rw [if_pos ⟨hnc, hcm⟩, hn0]
   split
   ·exact ⟨_, rfl⟩
   ·exact ⟨_, rfl⟩
  exact ⟨[], a', fun _ => [], hab, ⟨Nat.zero_le _, hcm, fun h => (by cases h), fun i ad hi => by simp at hi, fun i t h => by simp at h⟩, by simp [zd1], fun h => by simp at h⟩
theorem zoy {tT tS tI tG tU : TypeId} (T : TermTypes P tT tS tI tG tU) {w : DataW H → Nat} (hw : Wt w) : ∀ (fuel : Nat) (cs : List Value) (d : DataW H) (ps : List MemPlace), DataW.trod enc P W 0 sp true fuel tT cs = some (d, ps) → ∃ t, RepT (heapW P W) t (cs.map (ab P W)) ∧ 7 * nd t ≤ w d := by
 intro fuel
 induction fuel using Nat.strongRecOn with
 | _ fuel ih =>
 intro cs d ps h
 obtain ⟨fs, hf, hfs⟩ := T.fields
 obtain ⟨m, xs, rfl, hl, rfl, hall⟩ := z9u hf h
 rw [T.cT] at hl
 have fld : ∀ i o u, ((fs.toList.map fun f => (f.offset, f.type)))[i]? = some (o, u) → P.cellsOf u = 1 → ∃ x, xs[i]? = some x ∧ DataW.trod enc P W 0 sp true m u ((cs.drop o).take 1) = some x := fun i o u hi hu => by
  rw [List.getElem?_map, Option.map_eq_some_iff] at hi
  obtain ⟨f, hf1, hf2⟩ := hi
  obtain ⟨x, hx, hd⟩ := hall i f (by simpa using hf1)
  cases hf2
  rw [hu] at hd
  exact ⟨x, hx, hd⟩
 rw [hfs] at fld
 obtain ⟨d0, p0, t0⟩ := fld 0 0 tI rfl T.cI
 obtain ⟨d1, p1, t1⟩ := fld 1 1 tG rfl T.cG
 obtain ⟨d2, p2, t2⟩ := fld 2 2 tG rfl T.cG
 obtain ⟨d3, p3, t3⟩ := fld 3 3 tU rfl T.cU
 obtain ⟨d4, p4, t4⟩ := fld 4 4 tI rfl T.cI
 obtain ⟨d5, p5, t5⟩ := fld 5 5 tS rfl T.cS
 have hbulk : 6 + w d5.1 ≤ w (.agg (xs.map (·.1))) := by
  have h1 := hw.agg (xs.map (·.1))
  match xs, p0, p1, p2, p3, p4, p5, h1 with
  | x0 :: x1 :: x2 :: x3 :: x4 :: x5 :: r, p0, p1, p2, p3, p4, p5, h1 =>
   cases p5
   simp only [List.map_cons, List.sum_cons] at h1 ⊢
   have := hw.pos x0.1; have := hw.pos x1.1; have := hw.pos x2.1; have := hw.pos x3.1; have := hw.pos x4.1
   omega
 obtain ⟨k, h0, w0⟩ := z9t T.int t0
 obtain ⟨s, h1, w1⟩ := z7u T.str t1
 obtain ⟨u, h2, w2⟩ := z7u T.str t2
 obtain ⟨b, h3, w3⟩ := z9t T.u64 t3
 obtain ⟨v, h4, w4⟩ := z9t T.int t4
 have hp5 := hw.pos d5.1
 obtain ⟨d5, q5⟩ := d5
 rcases zc0 T.slice t5 with h5 | ⟨a, c, m', elems, rest, rfl, h5, hnc, hcm, rfl, hel⟩
 ·rw [zev hl (z3n h0) (z3n h1) (z3n h2) (z3n h3) (z3n h4) (z3n h5)]
  refine ⟨.mk k s u b v [], .mk k s u b v [] none 0 (fun _ => []) (zeu w0) w1 w2 (zli w3) (zeu w4) (Nat.zero_le _) (Nat.le_refl _) (Nat.zero_le _) (fun _ => ⟨rfl, rfl⟩) (fun i ad hi => by simp at hi) (fun i t ht => by simp at ht), ?_⟩
  rw [z4q, show (Tm.mk k s u b v []).args = [] from rfl, zd1]
  try simp only at hbulk
  try simp only at hp5
  omega
 ·rw [zev hl (z3n h0) (z3n h1) (z3n h2) (z3n h3) (z3n h4) (z3n h5)]
  obtain ⟨l, a', C, hab, rl, hn, -⟩ := zn6 T hnc hcm (ih m' (by omega)) hel
  simp only [List.map_cons, List.map_nil, zof, zir, hab]
  refine ⟨.mk k s u b v l, .mk k s u b v l (some a') c C (zeu w0) w1 w2 (zli w3) (zeu w4) (Nat.le_trans rl.len hcm) rl.len hcm (fun h => (by cases h)) rl.load rl.rep, ?_⟩
  rw [z4q, show (Tm.mk k s u b v l).args = l from rfl]
  have := hw.slice (elems.map (·.1)) rest
  try simp only at hbulk
  try simp only at hp5
  omega
end
end Go.Proofs.hq
end

section
namespace Go.Proofs.hq
open Go Go.RowKit Go.Hb
theorem zlk : ∀ {l : List Tm} {u : Tm}, u ∈ l → nd u ≤ nd.ndL l
 | t :: l, u, h => by
  rw [z9v]
  rcases List.mem_cons.1 h with rfl | h
  ·omega
  ·have := zlk h; omega
theorem zll {n : Nat} : ∀ (m : Nat) (t : Tm), SizeOf.sizeOf t < m → nd t ≤ n → Few n t
 | 0, t, h, _ => absurd h (Nat.not_lt_zero _)
 | m + 1, t, h, hn => by
  have h1 := z4q t
  have h2 := zis t.args
  refine .mk (by omega) fun u hu => zll m u ?_ ?_
  ·obtain ⟨i, hi, rfl⟩ := List.getElem_of_mem hu
   have := z1g (List.getElem?_eq_getElem hi)
   omega
  ·have := zlk hu; omega
end Go.Proofs.hq
end
