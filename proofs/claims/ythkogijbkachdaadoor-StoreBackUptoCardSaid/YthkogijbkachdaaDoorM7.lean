import Derived.Test.YthkogijbkachdaaDoorM3
import Derived.Test.YthkogijbkachdaaDoorM6
import Derived.Test.YthkogijbkachdaaDoorM5
/- Lemmas on the program's own code, towards the laws of this folder, part 7. Conditions: as each lemma says. -/
-- Sq11
section
namespace Go.Proofs.YthkogijbkachdaaDoor.hb
open Go Go.RowKit Go.Hb
variable {ok : Ok}
set_option maxRecDepth 10000
attribute [local irreducible] LX LG EL STG SOP SGO SGD SAL SRD SEF SEG SLK SCK ES
theorem zjb {σ : SS} {t : Tm} (h : (layV σ t).2.2 ≠ 0) : (layV σ t).2.1 = (0, 0) := by
  unfold layV at h ⊢
  split
  · rfl
  · rename_i h0
    rw [if_neg h0] at h
    split
    · rename_i h1
      rw [if_pos h1] at h; exact absurd rfl h
    · rfl
set_option maxHeartbeats 16000000 in
theorem zay {t : Tm} {cs : List Value} {O : List OpV} {oa : Option Addr} {oc : Nat} {H : Heap} (r0 : RepT H t cs) (ro0 : RepO15 H O oa oc)
    (hw : H.wf) (hsz : nd t + nd.ndL (O.map (·.tm)) ≤ 149796) :
    EvF Tryd.prog okT 4 [.agg ⟨cs⟩, .slice oa O.length oc] H fun v _ => v = .bool true := by
  have hol := z4y (O.map (·.tm))
  rw [List.length_map] at hol
  obtain ⟨a, c, cells, rfl, -, -, -, -, -, rl⟩ := r0.six
  refine EvF.enter rfl Tryd.func4 (by decide) rfl ?_
  (repeat refine EvC.seq ?_); refine EvC.reg ?_; simp (config := { maxSteps := 2000000 }) (disch := first | omega | rfl) only [sB, initTm, dBox, Value.cells, one, reduceCtorEq]
  obtain ⟨H1, e1, hx1, g1, n1, w1⟩ := new1 hw (.row (six t a c) 32)
  simp only [e1]
  have q1 := row6 g1
  have r := r0.mono hx1 hw
  have ro := ro0.mono hx1 hw
  repeat' (first | refine EvC.seq ?_ | refine EvC.scope ?_ | refine EvC.block ?_ | (refine EvC.skip ?_) | (refine EvC.exit ?_) | (refine EvC.ret ?_; try simp only [z01, z00]) | (refine EvC.reg ?_; simp (config := { maxSteps := 2000000 }) (disch := first | omega | rfl) only [sB, Nat.reduceEqDiff, reduceCtorEq, cl5]))
  refine (zc1 w1).mono ?_
  rintro v A0 ⟨rfl, k0⟩
  repeat' (first | refine EvC.seq ?_ | refine EvC.scope ?_ | refine EvC.block ?_ | (refine EvC.skip ?_) | (refine EvC.exit ?_) | (refine EvC.ret ?_; try simp only [z01, z00]) | (refine EvC.reg ?_; simp (config := { maxSteps := 2000000 }) (disch := first | omega | rfl) only [sB, Nat.reduceEqDiff, reduceCtorEq, cl6]))
  refine (zn1 k0.wf).mono ?_
  rintro v A1 ⟨s, rfl, hs1, k1⟩
  repeat' (first | refine EvC.seq ?_ | refine EvC.scope ?_ | refine EvC.block ?_ | (refine EvC.skip ?_; try simp only [z04]) | (refine EvC.exit ?_) | (refine EvC.ret ?_; try simp only [z01, z00]) | (refine EvC.reg ?_; simp (config := { maxSteps := 2000000 }) (disch := first | omega | rfl) only [sB, Nat.reduceEqDiff, reduceCtorEq, bEqP, Bool.not_true, Bool.false_eq_true]) | (refine EvC.condT ?_ ?_; simp (config := { maxSteps := 2000000 }) (disch := first | omega | rfl) only [sB, Nat.reduceEqDiff, reduceCtorEq]; refine z02 ?_) | (refine EvC.condF ?_ ?_; simp (config := { maxSteps := 2000000 }) (disch := first | omega | rfl) only [sB, Nat.reduceEqDiff, reduceCtorEq]; refine z02 ?_))
  have k01 := k0.trans k1
  have hB : H1.next ≤ A0.next := k0.next
  generalize A0.next = B at *
  refine EvC.loop (fun k st => ∃ tm H' i, st = ⟨tm, [], H'⟩ ∧ k = 6 - i ∧ i ≤ 6 ∧ tm.get 1 = some (.slice oa O.length oc) ∧ tm.get 2 = some (.pointer (some ⟨H.next, 0, none⟩)) ∧ tm.get 6 = some (.pointer (some ⟨s, 0, none⟩)) ∧ tm.get 7 = some (.int .i64 (i : Nat)) ∧
      St H' B s (mkN i) ∧ HX H1 H') ?_ 6 _ ?_
  rotate_left
  · exact ⟨_, _, 0, rfl, rfl, by omega, (by simp only [sG, Nat.reduceEqDiff, reduceCtorEq] <;> rfl), (by simp only [sG, Nat.reduceEqDiff, reduceCtorEq] <;> rfl), (by simp only [sG, Nat.reduceEqDiff, reduceCtorEq] <;> rfl), (by simp only [sB, Nat.reduceEqDiff, reduceCtorEq] <;> rfl), hs1, k01⟩
  rintro k st ⟨tm, H', i, rfl, rfl, hi, t1, t2, t6, t7, hs', hx'⟩
  by_cases hlt : i < 6
  · have d1 : decide ((i : Int) < 6) = true := decide_eq_true (by omega)
    have hml := z49 i
    have ew : IntKind.i64.wrap ((i : Int) + 1) = ((i + 1 : Nat) : Int) := by rw [z0c] <;> omega
    repeat' (first | refine EvC.seq ?_ | refine EvC.scope ?_ | refine EvC.block ?_ | (refine EvC.skip ?_; try simp only [z04]) | (refine EvC.exit ?_) | (refine EvC.ret ?_; try simp only [z01, z00]) | (refine EvC.reg ?_; simp (config := { maxSteps := 2000000 }) (disch := first | omega | rfl) only [sB, Nat.reduceEqDiff, cl7, t6, t7, d1]) | (refine EvC.condT ?_ ?_; simp (config := { maxSteps := 2000000 }) (disch := first | omega | rfl) only [sB, Nat.reduceEqDiff]; refine z02 ?_))
    refine (zh5 hs' hx'.wf (by rw [hml.2.1]; unfold most; omega) (by rw [hml.2.2.1]; unfold most; omega) (by rw [hml.1]; unfold most; omega) (by rw [hml.2.2.2.1]; unfold most; omega)).mono ?_
    rintro v H2 ⟨-, hs2, hx2⟩
    repeat' (first | refine EvC.seq ?_ | refine EvC.scope ?_ | refine EvC.block ?_ | (refine EvC.skip ?_) | (refine EvC.exit ?_) | (refine EvC.ret ?_; try simp only [z01, z00]) | (refine EvC.reg ?_; simp (config := { maxSteps := 2000000 }) (disch := first | omega | rfl) only [sB, Nat.reduceEqDiff, t7, ew]))
    exact ⟨_, by omega, _, _, i + 1, rfl, rfl, by omega, (by simp only [sG, Nat.reduceEqDiff, t1] <;> rfl), (by simp only [sG, Nat.reduceEqDiff, t2] <;> rfl), (by simp only [sG, Nat.reduceEqDiff, t6] <;> rfl), (by simp only [sG, Nat.reduceEqDiff] <;> rfl), hs2, hs'.hx hx' hB hx2⟩
  obtain rfl : i = 6 := by omega
  have d6 : decide (((6 : Nat) : Int) < 6) = false := by decide
  have hbd := zhr _ (Nat.lt_succ_self _) r
  have hm6 := z49 6
  have hmm : most = 1048576 := rfl
  have q1' := (row6 (hx'.get w1 g1)).2.2.2.2.2.2
  repeat' (first | refine EvC.seq ?_ | refine EvC.scope ?_ | refine EvC.block ?_ | (refine EvC.skip ?_) | (refine EvC.exit ?_; try simp only [sB]) | (refine EvC.ret ?_; try simp only [z01, z00]) | (refine EvC.reg ?_; simp (config := { maxSteps := 2000000 }) (disch := first | omega | rfl) only [sB, Nat.reduceEqDiff, ld32, cl10, t2, t6, t7, d6, q1']) | (refine EvC.condT ?_ ?_; simp (config := { maxSteps := 2000000 }) (disch := first | omega | rfl) only [sB, Nat.reduceEqDiff]; refine z02 ?_) | (refine EvC.condF ?_ ?_; simp (config := { maxSteps := 2000000 }) (disch := first | omega | rfl) only [sB, Nat.reduceEqDiff]; refine z02 ?_))
  refine (zho w1 hB r hx' hs' (z5p 6).lo (fun _ => by rw [hm6.2.1, hm6.2.2.2.2.1, hm6.2.2.2.2.2.1]; simp only [List.length_nil]; unfold most; omega)).mono ?_
  rintro v H2 ⟨rfl, hs2, hx2⟩
  have hxH2 := hs'.hx hx' hB hx2
  have w2 := hx2.wf
  have hlw := z7g (z5p 6) hbd
  have hft := zf3 (n := 6) hbd
  have hst := BI.start hbd
  have herr := zjb (σ := mkN 6) (t := t)
  have hlf := zf4 (σ := mkN 6) (t := t)
  have hmf := zds 6
  generalize hlv : layV (mkN 6) t = lv at *
  obtain ⟨ρ, c0, e0'⟩ := lv
  simp only at hs2 hlw hft hst herr hlf
  obtain ⟨H3, e3, hx3, g3, n3, w3⟩ := z29 w2 (.row [.int .i64 0, .int .i64 0] 37) (.row (two c0) 37)
  have q3 := z14 g3
  have hs3 := hs2.keep w2 hx3
  have hxH3 := hxH2.trans hx3
  by_cases he : e0' = 0
  rotate_left
  · obtain rfl := herr he
    repeat' (first | refine EvC.seq ?_ | refine EvC.scope ?_ | refine EvC.block ?_ | (refine EvC.skip ?_) | (refine EvC.exit ?_) | (refine EvC.ret ?_; try simp only [z01, z00]) | (refine EvC.reg ?_; simp (config := { maxSteps := 2000000 }) (disch := first | omega | rfl) only [sB, Nat.reduceEqDiff, Value.cells, layC, ld37, bd37, z4o he, q3, zbz]) | (refine z0l ?_; simp (config := { maxSteps := 2000000 }) (disch := first | omega | rfl) only [sB, dAlloc, Nat.reduceEqDiff, Nat.reduceAdd, one, zr37, st37, e3]) | (refine EvC.condT ?_ ?_; simp (config := { maxSteps := 2000000 }) (disch := first | omega | rfl) only [sB, Nat.reduceEqDiff]; refine z02 ?_))
    exact z06 rfl (by simp only [sB, Nat.reduceEqDiff] <;> rfl) rfl
  subst he
  have ht := hft rfl
  obtain ⟨l1, l2, l3, l4, l5, l6, l7, l8, l9⟩ := hlw
  have hmay := l3 rfl
  clear l3 hft herr
  replace l6 : ρ.vars.length = 6 := by rw [l6]; exact hm6.1
  have hfc : ρ.cells.length ≤ most := by rw [hm6.2.1] at l7; unfold most; omega
  have hTρ := l1.tok hfc (by rw [l6]; unfold most; omega)
  repeat' (first | refine EvC.seq ?_ | refine EvC.scope ?_ | refine EvC.block ?_ | (refine EvC.skip ?_; try simp only [z04]) | (refine EvC.exit ?_) | (refine EvC.ret ?_; try simp only [z01, z00]) | (refine EvC.reg ?_; simp (config := { maxSteps := 2000000 }) (disch := first | omega | rfl) only [sB, Nat.reduceEqDiff, ld37, cl8, z1l rfl, q3, t6]) | (refine z0l ?_; simp (config := { maxSteps := 2000000 }) (disch := first | omega | rfl) only [sB, dAlloc, Nat.reduceEqDiff, Nat.reduceAdd, one, zr37, st37, e3]) | (refine EvC.condT ?_ ?_; simp (config := { maxSteps := 2000000 }) (disch := first | omega | rfl) only [sB, Nat.reduceEqDiff]; refine z02 ?_) | (refine EvC.condF ?_ ?_; simp (config := { maxSteps := 2000000 }) (disch := first | omega | rfl) only [sB, Nat.reduceEqDiff]; refine z02 ?_))
  refine (zhe hTρ l1.lo hs3 w3).mono ?_
  rintro v H4 ⟨cs4, rfl, hrF4, hx4⟩
  rw [ht] at hrF4 ⊢
  have hr4 := hrF4.rep
  obtain ⟨a4, c4, rfl, -⟩ := hrF4
  simp only at hr4 ⊢
  obtain ⟨H5, e5, hx5, g5, n5, w5⟩ := z29 hx4.wf (.row zero6 32) (.row (six t a4 c4) 32)
  have q5 := (row6 g5).2.2.2.2.2.2
  have hx45 := hx4.trans hx5
  have hs5 := hs3.keep w3 hx45
  have hxH5 := hxH3.trans hx45
  have q1'' := (row6 (hxH5.get w1 g1)).2.2.2.2.2.2
  repeat' (first | refine EvC.seq ?_ | refine EvC.scope ?_ | refine EvC.block ?_ | (refine EvC.skip ?_) | (refine EvC.exit ?_) | (refine EvC.ret ?_; try simp only [z01, z00]) | (refine EvC.reg ?_; simp (config := { maxSteps := 2000000 }) (disch := first | omega | rfl) only [sB, Nat.reduceEqDiff, ld32, cl14, q5, q1'', t2]) | (refine z0l ?_; simp (config := { maxSteps := 2000000 }) (disch := first | omega | rfl) only [sB, dAlloc, Nat.reduceEqDiff, Nat.reduceAdd, one, zr32, st32, e5]))
  refine (z8a (r.mono hxH5 w1) (hr4.mono hx5 hx4.wf) w5).mono ?_
  rintro v H6 ⟨rfl, hx6⟩
  rw [zj7 rfl]
  have hs6 := hs5.keep w5 hx6
  repeat' (first | refine EvC.seq ?_ | refine EvC.scope ?_ | refine EvC.block ?_ | (refine EvC.skip ?_; try simp only [z04]) | (refine EvC.exit ?_) | (refine EvC.ret ?_; try simp only [z01, z00]) | (refine EvC.reg ?_; simp (config := { maxSteps := 2000000 }) (disch := first | omega | rfl) only [sB, Nat.reduceEqDiff, cl16, z1l rfl, t6, Bool.not_true, Bool.false_eq_true]) | (refine EvC.condT ?_ ?_; simp (config := { maxSteps := 2000000 }) (disch := first | omega | rfl) only [sB, Nat.reduceEqDiff]; refine z02 ?_) | (refine EvC.condF ?_ ?_; simp (config := { maxSteps := 2000000 }) (disch := first | omega | rfl) only [sB, Nat.reduceEqDiff]; refine z02 ?_))
  refine (zh4 hs6).mono ?_
  rintro v H6' ⟨rfl, rfl⟩
  have w6 := hx6.wf
  repeat' (first | refine EvC.seq ?_ | refine EvC.scope ?_ | refine EvC.block ?_ | (refine EvC.skip ?_) | (refine EvC.exit ?_) | (refine EvC.ret ?_; try simp only [z01, z00]) | (refine EvC.reg ?_; simp (config := { maxSteps := 2000000 }) (disch := first | omega | rfl) only [sB, Nat.reduceEqDiff, cl9, t6]))
  refine (zh6 hs6 w6 (by rw [l5, hm6.2.2.2.2.2.2.2]; simp only [List.length_nil]; unfold most; omega)).mono ?_
  rintro v H7 ⟨rfl, hs7, hx7⟩
  rw [l5, hm6.2.2.2.2.2.2.2]
  have w7 := hx7.wf
  have hxH7 := hs6.hx (hxH5.trans hx6) hB hx7
  have hxH6 := hxH5.trans hx6
  have gc6 := (hx45.trans hx6).get w3 g3
  have gt6 := hx6.get w5 g5
  have mc6 : ¬ Mut H6' s H2.next := hs2.fresh w2 (hx3.trans (hx45.trans hx6)) (Nat.le_refl _)
  have mt6 : ¬ Mut H6' s H4.next := hs2.fresh w2 (hx3.trans (hx45.trans hx6)) (Nat.le_trans hx3.next hx4.next)
  have gc7 := hx7.own w6 mc6 gc6
  have gt7 := hx7.own w6 mt6 gt6
  have mc7 := hx7.nm (w6 _ _ gc6) mc6
  have mt7 := hx7.nm (w6 _ _ gt6) mt6
  have hne : H2.next ≠ H4.next := by have := hx4.next; omega
  have hBp : B ≤ H4.next := by have := hs2.lt w2; have := hs2.ge; have := hx3.next; have := hx4.next; omega
  generalize H2.next = p8 at *
  generalize H4.next = p10 at *
  clear q1 q1' q1'' q3 q5 e1 e3 e5 gc6 gt6 mc6 mt6 g3 g5 n3 n5
  have hst' : BI ρ { ρ with marks := ρ.marks ++ [lens ρ] } (nd t + nd.ndL ((O.map (·.tm)).take 0)) 0 := by
    rw [List.take_zero, nd.ndL, Nat.add_zero]; exact hst
  have hwt : ∀ i, nd t + nd.ndL ((O.map (·.tm)).take i) ≤ 149796 := fun i => by
    have h1 := z5q (O.map (·.tm)) i
    omega
  repeat' (first | refine EvC.seq ?_ | refine EvC.scope ?_ | refine EvC.block ?_ | (refine EvC.skip ?_) | (refine EvC.exit ?_) | (refine EvC.ret ?_; try simp only [z01, z00]) | (refine EvC.reg ?_; simp (config := { maxSteps := 2000000 }) (disch := first | omega | rfl) only [sA]))
  refine EvC.loop (fun k st => ∃ tm H' i σ, st = ⟨tm, [], H'⟩ ∧ k = O.length - i ∧ i ≤ O.length ∧ tm.get 1 = some (.slice oa O.length oc) ∧ tm.get 2 = some (.pointer (some ⟨H.next, 0, none⟩)) ∧ tm.get 6 = some (.pointer (some ⟨s, 0, none⟩)) ∧
      tm.get 8 = some (.pointer (some ⟨p8, 0, none⟩)) ∧ tm.get 10 = some (.pointer (some ⟨p10, 0, none⟩)) ∧ tm.get 13 = some (.int .i64 (ρ.cells.length : Nat)) ∧ tm.get 14 = some (.int .i64 0) ∧ tm.get 15 = some (.int .i64 (i : Nat)) ∧
      BI ρ σ (nd t + nd.ndL ((O.map (·.tm)).take i)) i ∧ St H' B s σ ∧ H'.get p8 = some (.row (two c0) 37) ∧ H'.get p10 = some (.row (six t a4 c4) 32) ∧ ¬ Mut H' s p8 ∧ ¬ Mut H' s p10 ∧ HX H1 H') ?_ O.length _ ?_
  rotate_left
  · exact ⟨_, _, 0, _, rfl, rfl, by omega, (by simp only [sG, Nat.reduceEqDiff, t1] <;> rfl), (by simp only [sG, Nat.reduceEqDiff, t2] <;> rfl), (by simp only [sG, Nat.reduceEqDiff, t6] <;> rfl), (by simp only [sG, Nat.reduceEqDiff] <;> rfl), (by simp only [sG, Nat.reduceEqDiff] <;> rfl), (by simp only [sG, Nat.reduceEqDiff] <;> rfl), (by simp only [sB, Nat.reduceEqDiff] <;> rfl), (by simp only [sB, Nat.reduceEqDiff] <;> rfl), hst', hs7, gc7, gt7, mc7, mt7, hxH7⟩
  clear t1 t2 t6 t7 hs7 gc7 gt7 mc7 mt7 hxH7 hst hst' hx7 hlt hi d6 hs1 hs2 hs3 hs5 hs6 hx2 hx3 hx4 hx5 hx6 hx45 hr4 hxH2 hxH3 hxH5 hxH6 w2 w3 w5 w6 w7 hs' hx' k0 k1 k01 tm H'
  rintro k st ⟨tm, H', i, σ, rfl, rfl, hi, t1, t2, t6, t8, t10, t13, t14, t15, hP, hs', gc, gt, mc, mt, hx'⟩
  have w' := hx'.wf
  by_cases hlt : i < O.length
  · have ewi : IntKind.i64.wrap ((i : Int) + 1) = ((i + 1 : Nat) : Int) := by rw [z0c] <;> omega
    obtain ⟨ob, oo, a', c', rfl, lk1, ln1, lt1, lc1, ro'⟩ := ro.el i hlt
    have lk := hx'.load w1 lk1
    have ln := hx'.load w1 ln1
    have lt := hx'.load w1 lt1
    have lc := hx'.load w1 lc1
    have hbo := zhr _ (Nat.lt_succ_self _) ro'
    have hli : i < (O.map (·.tm)).length := by simpa using hlt
    have hOi : (O.map (·.tm))[i] = O[i].tm := by simp
    have hwi : nd.ndL ((O.map (·.tm)).take (i + 1)) = nd.ndL ((O.map (·.tm)).take i) + nd O[i].tm := by rw [z2i hli, hOi]
    have hw149 : nd t + nd.ndL ((O.map (·.tm)).take i) + nd O[i].tm ≤ 149796 := by have := hwt (i + 1); rw [hwi] at this; omega
    obtain ⟨f1, f2, f3, f4, f5, f6, f7, f8⟩ := hP.few hw149 (by omega)
    have hwle : nd t + nd.ndL ((O.map (·.tm)).take i) ≤ nd t + nd.ndL ((O.map (·.tm)).take (i + 1)) := by rw [hwi]; omega
    by_cases k1 : O[i].kind = 1
    · repeat' (first | refine EvC.seq ?_ | refine EvC.scope ?_ | refine EvC.block ?_ | (refine EvC.skip ?_; try simp only [z04]) | (refine EvC.exit ?_) | (refine EvC.ret ?_; try simp only [z01, z00]) | (refine EvC.reg ?_; simp (config := { maxSteps := 2000000 }) (disch := first | omega | rfl) only [sB, Nat.reduceEqDiff, cl7, ln46, ia46, z81, ld3, t1, t15, decl hlt, lk, z0y k1, t6]) | (refine EvC.condT ?_ ?_; simp (config := { maxSteps := 2000000 }) (disch := first | omega | rfl) only [sB, Nat.reduceEqDiff]; refine z02 ?_))
      refine (zh5 hs' w' (by omega) (by omega) (by omega) (by omega)).mono ?_
      rintro v H2 ⟨-, hs2, hx2⟩
      repeat' (first | refine EvC.seq ?_ | refine EvC.scope ?_ | refine EvC.block ?_ | (refine EvC.skip ?_) | (refine EvC.exit ?_) | (refine EvC.ret ?_; try simp only [z01, z00]) | (refine EvC.reg ?_; simp (config := { maxSteps := 2000000 }) (disch := first | omega | rfl) only [sB, Nat.reduceEqDiff, t15, ewi]))
      exact ⟨_, by omega, _, _, i + 1, _, rfl, rfl, by omega, (by simp only [sG, Nat.reduceEqDiff, t1] <;> rfl), (by simp only [sG, Nat.reduceEqDiff, t2] <;> rfl), (by simp only [sG, Nat.reduceEqDiff, t6] <;> rfl), (by simp only [sG, Nat.reduceEqDiff, t8] <;> rfl), (by simp only [sG, Nat.reduceEqDiff, t10] <;> rfl), (by simp only [sG, Nat.reduceEqDiff, t13] <;> rfl), (by simp only [sG, Nat.reduceEqDiff, t14] <;> rfl), (by simp only [sG, Nat.reduceEqDiff] <;> rfl), hP.make.le hwle (Nat.le_refl _), hs2, hx2.own w' mc gc, hx2.own w' mt gt, hx2.nm (w' _ _ gc) mc, hx2.nm (w' _ _ gt) mt, hs'.hx hx' hB hx2⟩
    by_cases k5 : O[i].kind = 5
    · repeat' (first | refine EvC.seq ?_ | refine EvC.scope ?_ | refine EvC.block ?_ | (refine EvC.skip ?_; try simp only [z04]) | (refine EvC.exit ?_) | (refine EvC.ret ?_; try simp only [z01, z00]) | (refine EvC.reg ?_; simp (config := { maxSteps := 2000000 }) (disch := first | omega | rfl) only [sB, Nat.reduceEqDiff, ld32, cl10, ln46, ia46, z81, ld3, zm9, t1, t15, decl hlt, lk, lt, z0n k1, z0y k5, t6]) | (refine EvC.condT ?_ ?_; simp (config := { maxSteps := 2000000 }) (disch := first | omega | rfl) only [sB, Nat.reduceEqDiff]; refine z02 ?_) | (refine EvC.condF ?_ ?_; simp (config := { maxSteps := 2000000 }) (disch := first | omega | rfl) only [sB, Nat.reduceEqDiff]; refine z02 ?_))
      refine (zho w1 hB ro' hx' hs' hP.wf.lo (fun _ => ⟨by omega, by omega, by omega⟩)).mono ?_
      rintro v H2 ⟨rfl, hs2, hx2⟩
      repeat' (first | refine EvC.seq ?_ | refine EvC.scope ?_ | refine EvC.block ?_ | (refine EvC.skip ?_) | (refine EvC.exit ?_) | (refine EvC.ret ?_; try simp only [z01, z00]) | (refine EvC.reg ?_; simp (config := { maxSteps := 2000000 }) (disch := first | omega | rfl) only [sB, Nat.reduceEqDiff, t15, ewi]))
      exact ⟨_, by omega, _, _, i + 1, _, rfl, rfl, by omega, (by simp only [sG, Nat.reduceEqDiff, t1] <;> rfl), (by simp only [sG, Nat.reduceEqDiff, t2] <;> rfl), (by simp only [sG, Nat.reduceEqDiff, t6] <;> rfl), (by simp only [sG, Nat.reduceEqDiff, t8] <;> rfl), (by simp only [sG, Nat.reduceEqDiff, t10] <;> rfl), (by simp only [sG, Nat.reduceEqDiff, t13] <;> rfl), (by simp only [sG, Nat.reduceEqDiff, t14] <;> rfl), (by simp only [sG, Nat.reduceEqDiff] <;> rfl), (hP.lay hbo).le (by rw [hwi]; omega) (Nat.le_succ _), hs2, hx2.own w' mc gc, hx2.own w' mt gt, hx2.nm (w' _ _ gc) mc, hx2.nm (w' _ _ gt) mt, hs'.hx hx' hB hx2⟩
    by_cases k9 : O[i].kind = 9
    · obtain ⟨Hb, eb, hxb, wb⟩ := z36 w' 12
      have lnb := hxb.load w' ln
      have lcb := hxb.load w' lc
      have hsb := hs'.keep w' hxb
      have hsx := hxb.sx (hs'.lt w')
      repeat' (first | refine EvC.seq ?_ | refine EvC.scope ?_ | refine EvC.block ?_ | (refine EvC.skip ?_; try simp only [z04]) | (refine EvC.exit ?_) | (refine EvC.ret ?_; try simp only [z01, z00]) | (refine EvC.reg ?_; simp (config := { maxSteps := 2000000 }) (disch := first | omega | rfl) only [sB, Nat.reduceEqDiff, ln46, ia46, z81, ld3, t1, t15, decl hlt, lk, z0n k1, z0n k5, z0y k9]) | (refine EvC.drw [([(0, 0), (1, 0), (2, 0), (3, 0), (4, 0), (5, 0), (6, 0), (7, 0), (8, 0), (9, 0), (10, 0)], some 11), ([], none)] ?_ ?_; kernel_rfl; simp (config := { maxSteps := 2000000 }) (disch := first | omega | rfl) only [sD, sB, Nat.reduceEqDiff, Nat.reduceAdd, reduceCtorEq, ld37, ia46, ld3, zk7, zma, cl11, t1, t15, t6, eb, lnb, lcb, isAlloc, isRead, reduceCtorEq]) | (refine EvC.condT ?_ ?_; simp (config := { maxSteps := 2000000 }) (disch := first | omega | rfl) only [sB, Nat.reduceEqDiff]; refine z02 ?_) | (refine EvC.condF ?_ ?_; simp (config := { maxSteps := 2000000 }) (disch := first | omega | rfl) only [sB, Nat.reduceEqDiff]; refine z02 ?_))
      refine (zlt (c := O[i].cell) hsb wb (hP.varb (by omega) (by omega)) hP.wf.lo (fun h => hP.wf.der _ h) (by omega)).mono ?_
      rintro v H2 ⟨rfl, hs2, hx2'⟩
      have hx2 := hsx.trans hx2'
      repeat' (first | refine EvC.seq ?_ | refine EvC.scope ?_ | refine EvC.block ?_ | (refine EvC.skip ?_) | (refine EvC.exit ?_) | (refine EvC.ret ?_; try simp only [z01, z00]) | (refine EvC.reg ?_; simp (config := { maxSteps := 2000000 }) (disch := first | omega | rfl) only [sB, Nat.reduceEqDiff, t15, ewi]) | (refine za5 ?_; simp (config := { maxSteps := 2000000 }) (disch := first | omega | rfl) only [sD, z5t]))
      exact ⟨_, by omega, _, _, i + 1, _, rfl, rfl, by omega, (by simp only [sG, Nat.reduceEqDiff, t1] <;> rfl), (by simp only [sG, Nat.reduceEqDiff, t2] <;> rfl), (by simp only [sG, Nat.reduceEqDiff, t6] <;> rfl), (by simp only [sG, Nat.reduceEqDiff, t8] <;> rfl), (by simp only [sG, Nat.reduceEqDiff, t10] <;> rfl), (by simp only [sG, Nat.reduceEqDiff, t13] <;> rfl), (by simp only [sG, Nat.reduceEqDiff, t14] <;> rfl), (by simp only [sG, Nat.reduceEqDiff] <;> rfl), (hP.bind _ _).le hwle (Nat.le_refl _), hs2, hx2.own w' mc gc, hx2.own w' mt gt, hx2.nm (w' _ _ gc) mc, hx2.nm (w' _ _ gt) mt, hs'.hx hx' hB hx2⟩
    by_cases k10 : O[i].kind = 10
    · repeat' (first | refine EvC.seq ?_ | refine EvC.scope ?_ | refine EvC.block ?_ | (refine EvC.skip ?_; try simp only [z04]) | (refine EvC.exit ?_) | (refine EvC.ret ?_; try simp only [z01, z00]) | (refine EvC.reg ?_; simp (config := { maxSteps := 2000000 }) (disch := first | omega | rfl) only [sB, Nat.reduceEqDiff, ln46, ia46, z81, ld3, zk7, cl17, t1, t15, decl hlt, lk, ln, z0n k1, z0n k5, z0n k9, z0y k10, t6]) | (refine EvC.condT ?_ ?_; simp (config := { maxSteps := 2000000 }) (disch := first | omega | rfl) only [sB, Nat.reduceEqDiff]; refine z02 ?_) | (refine EvC.condF ?_ ?_; simp (config := { maxSteps := 2000000 }) (disch := first | omega | rfl) only [sB, Nat.reduceEqDiff]; refine z02 ?_))
      refine (zls hs' w' (hP.varb (by omega) (by omega)) hP.wf.lf (by omega)).mono ?_
      rintro v H2 ⟨rfl, hs2, hx2⟩
      repeat' (first | refine EvC.seq ?_ | refine EvC.scope ?_ | refine EvC.block ?_ | (refine EvC.skip ?_) | (refine EvC.exit ?_) | (refine EvC.ret ?_; try simp only [z01, z00]) | (refine EvC.reg ?_; simp (config := { maxSteps := 2000000 }) (disch := first | omega | rfl) only [sB, Nat.reduceEqDiff, t15, ewi]))
      exact ⟨_, by omega, _, _, i + 1, _, rfl, rfl, by omega, (by simp only [sG, Nat.reduceEqDiff, t1] <;> rfl), (by simp only [sG, Nat.reduceEqDiff, t2] <;> rfl), (by simp only [sG, Nat.reduceEqDiff, t6] <;> rfl), (by simp only [sG, Nat.reduceEqDiff, t8] <;> rfl), (by simp only [sG, Nat.reduceEqDiff, t10] <;> rfl), (by simp only [sG, Nat.reduceEqDiff, t13] <;> rfl), (by simp only [sG, Nat.reduceEqDiff, t14] <;> rfl), (by simp only [sG, Nat.reduceEqDiff] <;> rfl), (hP.flag _).le hwle (Nat.le_refl _), hs2, hx2.own w' mc gc, hx2.own w' mt gt, hx2.nm (w' _ _ gc) mc, hx2.nm (w' _ _ gt) mt, hs'.hx hx' hB hx2⟩
    by_cases k11 : O[i].kind = 11
    · repeat' (first | refine EvC.seq ?_ | refine EvC.scope ?_ | refine EvC.block ?_ | (refine EvC.skip ?_; try simp only [z04]) | (refine EvC.exit ?_) | (refine EvC.ret ?_; try simp only [z01, z00]) | (refine EvC.reg ?_; simp (config := { maxSteps := 2000000 }) (disch := first | omega | rfl) only [sB, Nat.reduceEqDiff, cl9, ln46, ia46, z81, ld3, t1, t15, decl hlt, lk, z0n k1, z0n k5, z0n k9, z0n k10, z0y k11, t6]) | (refine EvC.condT ?_ ?_; simp (config := { maxSteps := 2000000 }) (disch := first | omega | rfl) only [sB, Nat.reduceEqDiff]; refine z02 ?_) | (refine EvC.condF ?_ ?_; simp (config := { maxSteps := 2000000 }) (disch := first | omega | rfl) only [sB, Nat.reduceEqDiff]; refine z02 ?_))
      refine (zh6 hs' w' (by omega)).mono ?_
      rintro v H2 ⟨rfl, hs2, hx2⟩
      repeat' (first | refine EvC.seq ?_ | refine EvC.scope ?_ | refine EvC.block ?_ | (refine EvC.skip ?_) | (refine EvC.exit ?_) | (refine EvC.ret ?_; try simp only [z01, z00]) | (refine EvC.reg ?_; simp (config := { maxSteps := 2000000 }) (disch := first | omega | rfl) only [sB, Nat.reduceEqDiff, t15, ewi]))
      exact ⟨_, by omega, _, _, i + 1, _, rfl, rfl, by omega, (by simp only [sG, Nat.reduceEqDiff, t1] <;> rfl), (by simp only [sG, Nat.reduceEqDiff, t2] <;> rfl), (by simp only [sG, Nat.reduceEqDiff, t6] <;> rfl), (by simp only [sG, Nat.reduceEqDiff, t8] <;> rfl), (by simp only [sG, Nat.reduceEqDiff, t10] <;> rfl), (by simp only [sG, Nat.reduceEqDiff, t13] <;> rfl), (by simp only [sG, Nat.reduceEqDiff, t14] <;> rfl), (by simp only [sG, Nat.reduceEqDiff] <;> rfl), hP.mark.le hwle (Nat.le_refl _), hs2, hx2.own w' mc gc, hx2.own w' mt gt, hx2.nm (w' _ _ gc) mc, hx2.nm (w' _ _ gt) mt, hs'.hx hx' hB hx2⟩
    · repeat' (first | refine EvC.seq ?_ | refine EvC.scope ?_ | refine EvC.block ?_ | (refine EvC.skip ?_; try simp only [sA]) | (refine EvC.exit ?_) | (refine EvC.ret ?_; try simp only [z01, z00]) | (refine EvC.reg ?_; simp (config := { maxSteps := 2000000 }) (disch := first | omega | rfl) only [sB, Nat.reduceEqDiff, ln46, ia46, z81, ld3, t1, t15, decl hlt, lk, z0n k1, z0n k5, z0n k9, z0n k10, z0n k11, ewi]) | (refine EvC.condT ?_ ?_; simp (config := { maxSteps := 2000000 }) (disch := first | omega | rfl) only [sB, Nat.reduceEqDiff]; refine z02 ?_) | (refine EvC.condF ?_ ?_; simp (config := { maxSteps := 2000000 }) (disch := first | omega | rfl) only [sB, Nat.reduceEqDiff]; refine z02 ?_))
      exact ⟨_, by omega, _, _, i + 1, _, rfl, rfl, by omega, (by simp only [sG, Nat.reduceEqDiff, t1] <;> rfl), (by simp only [sG, Nat.reduceEqDiff, t2] <;> rfl), (by simp only [sG, Nat.reduceEqDiff, t6] <;> rfl), (by simp only [sG, Nat.reduceEqDiff, t8] <;> rfl), (by simp only [sG, Nat.reduceEqDiff, t10] <;> rfl), (by simp only [sG, Nat.reduceEqDiff, t13] <;> rfl), (by simp only [sG, Nat.reduceEqDiff, t14] <;> rfl), (by simp only [sG, Nat.reduceEqDiff] <;> rfl), hP.le hwle (Nat.le_succ _), hs', gc, gt, mc, mt, hx'⟩
  · obtain rfl : i = O.length := by omega
    repeat' (first | refine EvC.seq ?_ | refine EvC.scope ?_ | refine EvC.block ?_ | (refine EvC.skip ?_) | (refine EvC.exit ?_; try simp only [sB]) | (refine EvC.ret ?_; try simp only [z01, z00]) | (refine EvC.reg ?_; simp (config := { maxSteps := 2000000 }) (disch := first | omega | rfl) only [sB, Nat.reduceEqDiff, ln46, cl13, t1, t6, t14, t15, decn hlt]) | (refine EvC.condT ?_ ?_; simp (config := { maxSteps := 2000000 }) (disch := first | omega | rfl) only [sB, Nat.reduceEqDiff]; refine z02 ?_) | (refine EvC.condF ?_ ?_; simp (config := { maxSteps := 2000000 }) (disch := first | omega | rfl) only [sB, Nat.reduceEqDiff]; refine z02 ?_))
    obtain ⟨u1, u2, u3⟩ := hP.le'
    obtain ⟨hl0, e0⟩ := List.getElem?_eq_some_iff.1 hP.mk0
    refine (zhp (n := 0) (mt := ρ.trail.length) (mc := ρ.cells.length) (mv := ρ.vars.length) hs' w' hl0 e0 u1 u2 u3 hP.wf.lo hP.wf.lf hP.tr).mono ?_
    rintro v H2 ⟨rfl, hs2, hx2⟩
    rw [hP.undo l1] at hs2
    have w2 := hx2.wf
    have gc2 := hx2.own w' mc gc
    have gt2 := hx2.own w' mt gt
    have mt2 := hx2.nm (w' _ _ gt) mt
    have qc2 := (z14 gc2).1
    have gτ := hP.grow
    have wτ : WF noU { ρ with consts := σ.consts, funs := σ.funs, marks := σ.marks.take 1 } :=
      l1.grow gτ l1.lo l1.lf (fun _ _ q => q) (fun n h1 h2 => absurd h2 (Nat.not_lt.2 h1)) (fun n h1 h2 => absurd h2 (Nat.not_lt.2 h1)) (fun n h1 h2 => absurd h2 (Nat.not_lt.2 h1)) hP.wf.con hP.wf.fn
    have hTτ := wτ.tok hfc (by show ρ.vars.length ≤ most; rw [l6]; unfold most; omega)
    have hte : termS { ρ with consts := σ.consts, funs := σ.funs, marks := σ.marks.take 1 } c0 = (t, 0) := (zja hTρ gτ l1.lo rfl (.inl hmay)).trans ht
    repeat' (first | refine EvC.seq ?_ | refine EvC.scope ?_ | refine EvC.block ?_ | (refine EvC.skip ?_; try simp only [z04]) | (refine EvC.exit ?_) | (refine EvC.ret ?_; try simp only [z01, z00]) | (refine EvC.reg ?_; simp (config := { maxSteps := 2000000 }) (disch := first | omega | rfl) only [sB, Nat.reduceEqDiff, ld37, cl8, t6, t8, qc2]) | (refine z0l ?_; simp (config := { maxSteps := 2000000 }) (disch := first | omega | rfl) only [sA, z1l rfl]) | (refine EvC.condT ?_ ?_; simp (config := { maxSteps := 2000000 }) (disch := first | omega | rfl) only [sB, Nat.reduceEqDiff]; refine z02 ?_) | (refine EvC.condF ?_ ?_; simp (config := { maxSteps := 2000000 }) (disch := first | omega | rfl) only [sB, Nat.reduceEqDiff]; refine z02 ?_))
    refine (zhe hTτ wτ.lo hs2 w2).mono ?_
    rintro v H3 ⟨cs5, rfl, hrF5, hx3⟩
    rw [hte] at hrF5 ⊢
    obtain ⟨a5, c5, rfl, hbd5, hfl5⟩ := hrF5
    simp only at hbd5 hfl5 ⊢
    have w3 := hx3.wf
    have hs3 := hs2.keep w2 hx3
    have gt3 := hx3.get w2 gt2
    have mt3 := (hx3.sx (hs2.lt w2)).nm (w2 _ _ gt2) mt2
    have hxH2 := hs'.hx hx' hB hx2
    have hxH3 := hxH2.trans hx3
    have hxH4 := hxH3.pt (Nat.le_trans hB hBp) gt3 (some (.row (six t a5 c5) 32))
    have hs4 := (hs3.box w3 (w3 _ _ gt3) mt3 (some (.row (six t a5 c5) 32))).1
    have hfl4 := hfl5.heap (H' := H3.put p10 (some (.row (six t a5 c5) 32))) (fun n hn _ => by
      have := w2 _ _ gt2
      rw [get_put, if_neg (by have := hn.1; omega)]) w3
    have gt4 : (H3.put p10 (some (.row (six t a5 c5) 32))).get p10 = some (.row (six t a5 c5) 32) := by rw [get_put, if_pos rfl]
    have hr4 := RepF.rep (⟨a5, c5, rfl, hbd5, hfl4⟩ : RepF (H3.put p10 (some (.row (six t a5 c5) 32))) 32 _ t (six t a5 c5))
    have l10 := w3 _ _ gt3
    clear hfl4 hfl5
    generalize e4 : H3.put p10 (some (.row (six t a5 c5) 32)) = H4 at *
    have q4 := (row6 gt4).2.2.2.2.2.2
    have q1 := (row6 (hxH4.get w1 g1)).2.2.2.2.2.2
    repeat' (first | refine EvC.seq ?_ | refine EvC.scope ?_ | refine EvC.block ?_ | (refine EvC.skip ?_) | (refine EvC.exit ?_) | (refine EvC.ret ?_; try simp only [z01, z00]) | (refine EvC.reg ?_; simp (config := { maxSteps := 2000000 }) (disch := first | omega | rfl) only [sB, Nat.reduceEqDiff, ld32, cl14, z0y rfl, t2, t10, q4, q1]) | (refine z0l ?_; simp (config := { maxSteps := 2000000 }) (disch := first | omega | rfl) only [sB, Nat.reduceEqDiff, Nat.reduceAdd, one, st32, t10, gt3, e4]))
    refine (z8a (r.mono hxH4 w1) hr4 hxH4.wf).mono ?_
    rintro v H5 ⟨rfl, hx5⟩
    rw [zj7 rfl]
    repeat' (first | refine EvC.seq ?_ | refine EvC.scope ?_ | refine EvC.block ?_ | (refine EvC.skip ?_) | (refine EvC.exit ?_) | (refine EvC.ret ?_; try simp only [z01, z00]) | (refine zn6 ?_; simp (config := { maxSteps := 2000000 }) (disch := first | omega | rfl) only [sB, Nat.reduceEqDiff, cl16, t6]))
    refine (zh4 (hs4.keep hxH4.wf hx5)).mono ?_
    rintro v H5' ⟨rfl, rfl⟩
    repeat' (first | refine EvC.seq ?_ | refine EvC.scope ?_ | refine EvC.block ?_ | (refine EvC.skip ?_) | (refine EvC.exit ?_) | (refine EvC.ret ?_; try simp only [z01, z00]) | (refine z0l ?_; simp (config := { maxSteps := 2000000 }) (disch := first | omega | rfl) only [sB, Nat.reduceEqDiff, cl15, t6, t13, z0y rfl]))
    refine (zln (hs4.keep hxH4.wf hx5)).mono ?_
    rintro v H6 ⟨rfl, rfl⟩
    have e6 : ((ρ.vars.length : Nat) : Int) = 6 := by rw [l6]; rfl
    have d9 : (((ρ.vars.length : Nat) : Int) == 6) = true := by rw [e6]; rfl
    repeat' (first | refine EvC.seq ?_ | refine EvC.scope ?_ | refine EvC.block ?_ | (refine EvC.skip ?_) | (refine EvC.exit ?_) | (refine EvC.ret ?_; try simp only [z01, z00]) | (refine z0l ?_; simp (config := { maxSteps := 2000000 }) (disch := first | omega | rfl) only [sB, Nat.reduceEqDiff, cl18, t6, d9]))
    refine (zeq (hs4.keep hxH4.wf hx5) wτ.lf).mono ?_
    rintro v H7 ⟨rfl, rfl⟩
    have hfl : ∀ p : Prop, ∀ _ : Decidable p, (if p then (ρ.flags[((0 : Int)).toNat]?).getD false else false) = false := fun p _ => by
      split
      · rw [hlf]
        cases hq : (mkN 6).flags[((0 : Int)).toNat]? with
        | none => rfl
        | some x => exact hmf x (List.mem_of_getElem? hq)
      · rfl
    simp only [hfl]
    repeat' (first | refine EvC.seq ?_ | refine EvC.scope ?_ | refine EvC.block ?_ | (refine EvC.skip ?_) | (refine EvC.exit ?_) | (refine EvC.ret ?_; try simp only [z01, z00]) | (refine z0l ?_; simp (config := { maxSteps := 2000000 }) (disch := first | omega | rfl) only [sB, Nat.reduceEqDiff, Bool.not_false]))
    exact z06 rfl (by simp only [sG, Nat.reduceEqDiff] <;> rfl) rfl
end Go.Proofs.YthkogijbkachdaaDoor.hb
end

-- Law2
section
namespace Go.Hb
open Go Go.RowKit
section
variable {H : Type} {enc : TypeId × Value → H} {P : Program} {W : World} {sp : Nat → Bool} {fuel : Nat} {t e : TypeId} {cs : List Value} {d : DataW H} {ps : List MemPlace}
theorem zn3 {k : IntKind} {n : Int} : ab P W (.int k n) = .int k n := rfl
theorem zhx {s : ByteArray} : ab P W (.string s) = .string s := rfl
theorem z38 {k : IntKind} (ht : P.underlying t = some (.int k)) (h : DataW.trod enc P W 0 sp true fuel t cs = some (d, ps)) : ∃ n, cs = [.int k n] ∧ (Lit.int k n).wf = true := by
  cases fuel with
  | zero => simp [DataW.trod] at h
  | succ m =>
    unfold DataW.trod at h
    rw [ht] at h
    split at h <;> simp_all
theorem z7h (ht : P.underlying t = some .string) (h : DataW.trod enc P W 0 sp true fuel t cs = some (d, ps)) : ∃ s : ByteArray, cs = [.string s] ∧ s.size ≤ maxLen := by
  cases fuel with
  | zero => simp [DataW.trod] at h
  | succ m =>
    unfold DataW.trod at h
    rw [ht] at h
    split at h <;> simp_all
theorem trod_slice (ht : P.underlying t = some (.slice e)) (h : DataW.trod enc P W 0 sp true fuel t cs = some (d, ps)) :
    cs = [.slice none 0 0] ∨ ∃ a len cap m, fuel = m + 1 ∧ cs = [.slice (some a) len cap] ∧ len ≤ cap ∧ cap ≤ maxLen ∧
      ∀ i, i < len → ∃ es d' ps', W.cells? 0 (a.add (i * P.cellsOf e)) (P.cellsOf e) = some es ∧ DataW.trod enc P W 0 sp true m e es = some (d', ps') := by
  cases fuel with
  | zero => simp [DataW.trod] at h
  | succ m =>
    unfold DataW.trod at h
    rw [ht] at h
    split at h <;> simp_all
    obtain ⟨⟨hl, hc⟩, h⟩ := h
    simp only [Option.bind_eq_some_iff, Option.map_eq_some_iff] at h
    obtain ⟨elems, he, _⟩ := h
    refine ⟨_, _, _, ⟨rfl, rfl, rfl⟩, hl, hc, fun i hi => ?_⟩
    have hlen := mapM_some_length he
    have := mapM_some_get he i i (by simp [hi])
    rw [List.getElem?_eq_getElem (by rw [hlen]; simpa using hi)] at this
    simp only [Option.bind_eq_some_iff] at this
    obtain ⟨es, h1, h2⟩ := this
    exact ⟨es, h1, _, _, h2⟩
theorem zly (a : Addr) (i : Nat) : (a.add i).block = a.block := by unfold Addr.add; split <;> rfl
theorem z52 {a : Addr} {s i : Nat} {es : List Value} (hs : 0 < s) (h : W.cells? 0 (a.add (i * s)) s = some es) (hsp : a.spot = none) : (heapW P W).load ⟨a.block, a.off + i * s, none⟩ s = some (es.map (ab P W)) ∧ es.length = s ∧ a.block < W.heap.size := by
  obtain ⟨_, hl, hc⟩ := World.cells?_some h
  obtain ⟨b, o, sp⟩ := a
  obtain rfl : sp = none := hsp
  have hb := World.cells?_block h hs
  rw [zly] at hb
  refine ⟨zea hs hl fun j v hj => ?_, hl, hb⟩
  have hjl : j < es.length := (List.getElem?_eq_some_iff.1 hj).1
  have := hc j (by omega)
  rw [add0, add0] at this
  rw [this]; exact hj
theorem z8c {a : Addr} {s : Nat} {es : List Value} (hs : 0 < s) (h : W.cells? 0 (a.add (0 * s)) s = some es) : a.spot = none := by
  obtain ⟨_, hl, hc⟩ := World.cells?_some h
  have e0 : ∀ a : Addr, a.add 0 = a := fun a => by unfold Addr.add; simp
  have := hc 0 hs
  rw [Nat.zero_mul, e0, e0, List.getElem?_eq_getElem (by omega)] at this
  unfold World.cell? at this
  split at this
  · split at this
    · cases this
    · rename_i hn; simpa using hn
  · cases this
end
section
variable {H : Type} {enc : TypeId × Value → H} {P : Program} {W : World} {sp : Nat → Bool}
structure TermTypes (P : Program) (tT tS tI tG tU : TypeId) : Prop where
  fields : ∃ fs : Array Field, P.underlying tT = some (.struct fs) ∧ (fs.toList.map fun f => (f.offset, f.type)) = [(0, tI), (1, tG), (2, tG), (3, tU), (4, tI), (5, tS)]
  slice : P.underlying tS = some (.slice tT)
  int : P.underlying tI = some (.int .i64)
  str : P.underlying tG = some .string
  u64 : P.underlying tU = some (.int .u64)
  cT : P.cellsOf tT = 6
  cS : P.cellsOf tS = 1
  cI : P.cellsOf tI = 1
  cG : P.cellsOf tG = 1
  cU : P.cellsOf tU = 1
theorem zdt {n : Int} (h : (Lit.int .i64 n).wf = true) : i64 n := by
  unfold i64
  unfold Lit.wf at h
  simp [IntKind.min, IntKind.max, IntKind.bits, IntKind.signed] at h
  exact h
theorem zkn {n : Int} (h : (Lit.int .u64 n).wf = true) : u64 n := by
  unfold u64
  unfold Lit.wf at h
  simp [IntKind.min, IntKind.max, IntKind.bits, IntKind.signed] at h
  exact h
theorem z3b {cs : List Value} {o : Nat} {v : Value} (h : (cs.drop o).take 1 = [v]) : cs[o]? = some v := by
  have : ((cs.drop o).take 1)[0]? = some v := by rw [h]; rfl
  simpa [List.getElem?_take, List.getElem?_drop] using this
theorem zdu {cs : List Value} {a b c d e f : Value} (hl : cs.length = 6) (h0 : cs[0]? = some a) (h1 : cs[1]? = some b) (h2 : cs[2]? = some c) (h3 : cs[3]? = some d) (h4 : cs[4]? = some e) (h5 : cs[5]? = some f) : cs = [a, b, c, d, e, f] := by
  match cs, hl with
  | [_, _, _, _, _, _], _ => simp at h0 h1 h2 h3 h4 h5; simp [h0, h1, h2, h3, h4, h5]
end
end Go.Hb
end

-- Law3
section
namespace Go.Hb
open Go Go.RowKit
section
variable {H : Type} {enc : TypeId × Value → H} {P : Program} {W : World} {sp : Nat → Bool}
end
end Go.Hb
end

-- Law4
section
namespace Go.Proofs.YthkogijbkachdaaDoor.hb
open Go Go.RowKit Go.Hb
section
variable {H : Type} {enc : TypeId × Value → H} {P : Program} {W : World} {sp : Nat → Bool}
structure Wt (w : DataW H → Nat) : Prop where
  pos : ∀ d, 1 ≤ w d
  agg : ∀ ps, (ps.map w).sum + 1 ≤ w (.agg ps)
  slice : ∀ es rest, (es.map w).sum + 1 ≤ w (.slice es rest)
theorem z39 {fuel : Nat} {t : TypeId} {cs : List Value} {d : DataW H} {ps : List MemPlace} {fs : Array Field} (ht : P.underlying t = some (.struct fs)) (h : DataW.trod enc P W 0 sp true fuel t cs = some (d, ps)) :
    ∃ (m : Nat) (xs : List (DataW H × List MemPlace)), fuel = m + 1 ∧ cs.length = P.cellsOf t ∧ d = .agg (xs.map (·.1)) ∧ ∀ (i : Nat) (f : Field), fs[i]? = some f → ∃ x, xs[i]? = some x ∧ DataW.trod enc P W 0 sp true m f.type ((cs.drop f.offset).take (P.cellsOf f.type)) = some x := by
  cases fuel with
  | zero => simp [DataW.trod] at h
  | succ m =>
    unfold DataW.trod at h
    rw [ht] at h
    have h' : (if cs.length = P.cellsOf t then (fs.toList.mapM fun f => DataW.trod enc P W 0 sp true m f.type ((cs.drop f.offset).take (P.cellsOf f.type))).map fun xs => (DataW.agg (xs.map (·.1)), xs.flatMap (·.2)) else none) = some (d, ps) := by
      split at h <;> first | exact h | simp_all
    split at h'
    · rename_i hl
      rw [Option.map_eq_some_iff] at h'
      obtain ⟨xs, hx, he⟩ := h'
      cases he
      refine ⟨m, xs, rfl, hl, rfl, fun i f hf => ?_⟩
      have hlen := mapM_some_length hx
      have := mapM_some_get hx i f (by simpa using hf)
      have hi := (Array.getElem?_eq_some_iff.1 hf).1
      have hix : i < xs.length := by rw [hlen]; simpa using hi
      rw [List.getElem?_eq_getElem hix] at this
      exact ⟨xs[i], List.getElem?_eq_getElem hix, this⟩
    · cases h'
theorem z5r {fuel : Nat} {t e : TypeId} {cs : List Value} {d : DataW H} {ps : List MemPlace} (ht : P.underlying t = some (.slice e)) (h : DataW.trod enc P W 0 sp true fuel t cs = some (d, ps)) :
    cs = [.slice none 0 0] ∨ ∃ (a : Addr) (cap m : Nat) (elems : List (DataW H × List MemPlace)) (rest : List (DataW H)), fuel = m + 1 ∧ cs = [.slice (some a) elems.length cap] ∧ elems.length ≤ cap ∧ cap ≤ maxLen ∧ d = .slice (elems.map (·.1)) rest ∧
      ∀ i x, elems[i]? = some x → ∃ es, W.cells? 0 (a.add (i * P.cellsOf e)) (P.cellsOf e) = some es ∧ DataW.trod enc P W 0 sp true m e es = some x := by
  rcases DataW.trod_slice ht h with ⟨h1, -⟩ | ⟨a, len, cap, elems, rest, n, rfl, rfl, hx, -, hl, hm, rfl, hel, -⟩
  · exact .inl h1
  · cases hx
    refine .inr ⟨a, cap, n, elems, _, rfl, rfl, hl, hm, rfl, fun i x hx => ?_⟩
    have hi := (List.getElem?_eq_some_iff.1 hx).1
    have := hel i hi
    rw [hx, Option.bind_eq_some_iff] at this
    exact this
theorem z7i : nd.ndL [] = 0 := by rw [nd.ndL]
theorem zjc {t : Tm} {l : List Tm} : nd.ndL (t :: l) = nd t + nd.ndL l := by rw [nd.ndL]
theorem zhy {w : DataW H → Nat} : ∀ (es : List (DataW H × List MemPlace)) (f : Nat → Tm), (∀ i x, es[i]? = some x → 7 * nd (f i) ≤ w x.1) → 7 * nd.ndL ((List.range es.length).map f) ≤ ((es.map (·.1)).map w).sum
  | [], f, _ => by simp [z7i]
  | x :: es, f, h => by
    have h0 := h 0 x rfl
    have ih := zhy (w := w) es (fun i => f (i + 1)) fun i y hy => h (i + 1) y hy
    rw [List.length_cons, List.range_succ_eq_map, List.map_cons, List.map_map, zjc, List.map_cons, List.map_cons, List.sum_cons]
    have e : (f ∘ Nat.succ) = fun i => f (i + 1) := rfl
    rw [e]; omega
theorem zjd {b : Nat} {B : Blk} (h : (heapW P W).get b = some B) : ∃ cs e, B = .ro cs e := by
  rw [z4i] at h
  split at h
  · unfold blkW at h
    split at h
    · cases h; exact ⟨_, _, rfl⟩
    · cases h
  · cases h
theorem zlz {b o n : Nat} {cs : List Value} (h : (heapW P W).load ⟨b, o, none⟩ n = some cs) : ∃ cs e, (heapW P W).get b = some (.ro cs e) := by
  cases hg : (heapW P W).get b with
  | none => unfold Heap.load Heap.cells at h; simp [hg] at h
  | some B => obtain ⟨cs, e, rfl⟩ := zjd hg; exact ⟨cs, e, rfl⟩
theorem zm0 {tT tS tI tG tU : TypeId} (T : TermTypes P tT tS tI tG tU) {w : DataW H → Nat} {a : Addr} {m cap : Nat} {elems : List (DataW H × List MemPlace)}
    (hnc : elems.length ≤ cap) (hcm : cap ≤ maxLen)
    (ih : ∀ (cs : List Value) (d : DataW H) (ps : List MemPlace), DataW.trod enc P W 0 sp true m tT cs = some (d, ps) → ∃ t, RepT (heapW P W) t (cs.map (ab P W)) ∧ 7 * nd t ≤ w d)
    (hel : ∀ i x, elems[i]? = some x → ∃ es, W.cells? 0 (a.add (i * P.cellsOf tT)) (P.cellsOf tT) = some es ∧ DataW.trod enc P W 0 sp true m tT es = some x) :
    ∃ l a' cells, ab P W (.slice (some a) elems.length cap) = .slice (some a') l.length cap ∧ RepL (heapW P W) l (some a') cap cells ∧ 7 * nd.ndL l ≤ ((elems.map (·.1)).map w).sum ∧ (0 < l.length → a'.spot = none ∧ ∃ cs e, (heapW P W).get a'.block = some (.ro cs e)) := by
  rw [T.cT] at hel
  have hsp : 0 < elems.length → a.spot = none := fun hn => by
    obtain ⟨es, he, _⟩ := hel 0 elems[0] (List.getElem?_eq_getElem hn)
    exact z8c (by omega) he
  have key : ∀ i, ∃ t cells, (∀ x, elems[i]? = some x → (heapW P W).load ⟨a.block, a.off + i * 6, none⟩ 6 = some cells ∧ RepT (heapW P W) t cells ∧ 7 * nd t ≤ w x.1) := fun i => by
    by_cases hi : i < elems.length
    · obtain ⟨es, he, ht⟩ := hel i elems[i] (List.getElem?_eq_getElem hi)
      obtain ⟨t, hr, hwt⟩ := ih es elems[i].1 elems[i].2 ht
      exact ⟨t, _, fun x hx => by rw [List.getElem?_eq_getElem hi] at hx; cases hx; exact ⟨(z52 (by omega) he (hsp (by omega))).1, hr, hwt⟩⟩
    · exact ⟨.mk 0 ByteArray.empty ByteArray.empty 0 0 [], [], fun x hx => absurd (List.getElem?_eq_some_iff.1 hx).1 hi⟩
  obtain ⟨T', hT'⟩ := Classical.axiomOfChoice key
  obtain ⟨C, hC⟩ := Classical.axiomOfChoice hT'
  have hlen : ((List.range elems.length).map T').length = elems.length := by simp
  have hsum := zhy (w := w) elems T' fun i x hx => (hC i x hx).2.2
  by_cases hn : 0 < elems.length
  · have hbl : a.block < W.heap.size := by
      obtain ⟨es, he, _⟩ := hel 0 elems[0] (List.getElem?_eq_getElem hn)
      exact (z52 (P := P) (by omega) he (hsp hn)).2.2
    have hab : ab P W (.slice (some a) elems.length cap) = .slice (some a) ((List.range elems.length).map T').length cap := by
      unfold ab
      rw [hlen]
      simp only
      rw [if_pos ⟨hnc, hcm⟩, if_pos ⟨hsp hn, hbl⟩]
    refine ⟨(List.range elems.length).map T', a, C, hab, ⟨by rw [hlen]; exact hnc, hcm, fun h => (by cases h), fun i ad hi ha => ?_, fun i t ht => ?_⟩, hsum, fun _ => ⟨hsp hn, zlz (hC 0 _ (List.getElem?_eq_getElem hn)).1⟩⟩
    · cases ha
      rw [hlen] at hi
      exact ⟨hsp hn, (hC i _ (List.getElem?_eq_getElem hi)).1⟩
    · rw [List.getElem?_map, Option.map_eq_some_iff] at ht
      obtain ⟨j, hj, rfl⟩ := ht
      have hi : i < elems.length := by have := (List.getElem?_eq_some_iff.1 hj).1; simpa using this
      rw [List.getElem?_range hi] at hj
      cases hj
      exact (hC i _ (List.getElem?_eq_getElem hi)).2.1
  · have hn0 : elems.length = 0 := by omega
    obtain ⟨a', hab⟩ : ∃ a', ab P W (.slice (some a) elems.length cap) = .slice (some a') 0 cap := by
      unfold ab
      simp only
      rw [if_pos ⟨hnc, hcm⟩, hn0]
      split
      · exact ⟨_, rfl⟩
      · exact ⟨_, rfl⟩
    exact ⟨[], a', fun _ => [], hab, ⟨Nat.zero_le _, hcm, fun h => (by cases h), fun i ad hi => by simp at hi, fun i t h => by simp at h⟩, by simp [z7i], fun h => by simp at h⟩
theorem zn4 {tT tS tI tG tU : TypeId} (T : TermTypes P tT tS tI tG tU) {w : DataW H → Nat} (hw : Wt w) : ∀ (fuel : Nat) (cs : List Value) (d : DataW H) (ps : List MemPlace), DataW.trod enc P W 0 sp true fuel tT cs = some (d, ps) → ∃ t, RepT (heapW P W) t (cs.map (ab P W)) ∧ 7 * nd t ≤ w d := by
  intro fuel
  induction fuel using Nat.strongRecOn with
  | _ fuel ih =>
  intro cs d ps h
  obtain ⟨fs, hf, hfs⟩ := T.fields
  obtain ⟨m, xs, rfl, hl, rfl, hall⟩ := z39 hf h
  rw [T.cT] at hl
  have fld : ∀ i o u, ((fs.toList.map fun f => (f.offset, f.type)))[i]? = some (o, u) → P.cellsOf u = 1 → ∃ x, xs[i]? = some x ∧ DataW.trod enc P W 0 sp true m u ((cs.drop o).take 1) = some x := fun i o u hi hu => by
    rw [List.getElem?_map, Option.map_eq_some_iff] at hi
    obtain ⟨f, hf1, hf2⟩ := hi
    obtain ⟨x, hx, hd⟩ := hall i f (by simpa using hf1)
    cases hf2
    rw [hu] at hd
    exact ⟨x, hx, hd⟩
  rw [hfs] at fld
  obtain ⟨d0, p0, t0⟩ := fld 0 0 tI rfl T.cI
  obtain ⟨d1, p1, t1⟩ := fld 1 1 tG rfl T.cG
  obtain ⟨d2, p2, t2⟩ := fld 2 2 tG rfl T.cG
  obtain ⟨d3, p3, t3⟩ := fld 3 3 tU rfl T.cU
  obtain ⟨d4, p4, t4⟩ := fld 4 4 tI rfl T.cI
  obtain ⟨d5, p5, t5⟩ := fld 5 5 tS rfl T.cS
  have hbulk : 6 + w d5.1 ≤ w (.agg (xs.map (·.1))) := by
    have h1 := hw.agg (xs.map (·.1))
    match xs, p0, p1, p2, p3, p4, p5, h1 with
    | x0 :: x1 :: x2 :: x3 :: x4 :: x5 :: r, p0, p1, p2, p3, p4, p5, h1 =>
      cases p5
      simp only [List.map_cons, List.sum_cons] at h1 ⊢
      have := hw.pos x0.1; have := hw.pos x1.1; have := hw.pos x2.1; have := hw.pos x3.1; have := hw.pos x4.1
      omega
  obtain ⟨k, h0, w0⟩ := z38 T.int t0
  obtain ⟨s, h1, w1⟩ := z7h T.str t1
  obtain ⟨u, h2, w2⟩ := z7h T.str t2
  obtain ⟨b, h3, w3⟩ := z38 T.u64 t3
  obtain ⟨v, h4, w4⟩ := z38 T.int t4
  have hp5 := hw.pos d5.1
  obtain ⟨d5, q5⟩ := d5
  rcases z5r T.slice t5 with h5 | ⟨a, c, m', elems, rest, rfl, h5, hnc, hcm, rfl, hel⟩
  · rw [zdu hl (z3b h0) (z3b h1) (z3b h2) (z3b h3) (z3b h4) (z3b h5)]
    refine ⟨.mk k s u b v [], .mk k s u b v [] none 0 (fun _ => []) (zdt w0) w1 w2 (zkn w3) (zdt w4) (Nat.zero_le _) (Nat.le_refl _) (Nat.zero_le _) (fun _ => ⟨rfl, rfl⟩) (fun i ad hi => by simp at hi) (fun i t ht => by simp at ht), ?_⟩
    rw [z2a, show (Tm.mk k s u b v []).args = [] from rfl, z7i]
    try simp only at hbulk
    try simp only at hp5
    omega
  · rw [zdu hl (z3b h0) (z3b h1) (z3b h2) (z3b h3) (z3b h4) (z3b h5)]
    obtain ⟨l, a', C, hab, rl, hn, -⟩ := zm0 T hnc hcm (ih m' (by omega)) hel
    simp only [List.map_cons, List.map_nil, zn3, zhx, hab]
    refine ⟨.mk k s u b v l, .mk k s u b v l (some a') c C (zdt w0) w1 w2 (zkn w3) (zdt w4) (Nat.le_trans rl.len hcm) rl.len hcm (fun h => (by cases h)) rl.load rl.rep, ?_⟩
    rw [z2a, show (Tm.mk k s u b v l).args = l from rfl]
    have := hw.slice (elems.map (·.1)) rest
    try simp only at hbulk
    try simp only at hp5
    omega
end
end Go.Proofs.YthkogijbkachdaaDoor.hb
end

-- Law7
section
namespace Go.Proofs.YthkogijbkachdaaDoor.hb
open Go Go.RowKit Go.Hb
theorem z60 {H : Heap} {b o n : Nat} {cs : List Value} (h : H.load ⟨b, o, none⟩ n = some cs) {k m : Nat} (hk : k + m ≤ n) : H.load ⟨b, o + k, none⟩ m = some ((cs.drop k).take m) := by
  unfold Heap.load at h ⊢
  simp only at h ⊢
  cases hc : H.cells b with
  | none => rw [hc] at h; cases h
  | some xs =>
    rw [hc] at h
    simp only at h ⊢
    split at h
    · rename_i hl
      have e : (xs.drop o).take n = cs := Option.some.inj h
      rw [Nat.beq_eq] at hl
      have e1 : (xs.drop (o + k)).take m = (cs.drop k).take m := by
        rw [← e, List.drop_take, List.drop_drop, List.take_take, Nat.min_eq_left (by omega)]
      have hl2 : ((cs.drop k).take m).length = m := by
        rw [e] at hl
        rw [List.length_take, List.length_drop]; omega
      rw [e1, if_pos (by rw [Nat.beq_eq]; exact hl2)]
    · cases h
section
variable {H : Type} {enc : TypeId × Value → H} {P : Program} {W : World} {sp : Nat → Bool}
structure OpTypesW (P : Program) (tO tOS tT tI tC : TypeId) : Prop where
  fields : ∃ fs : Array Field, P.underlying tO = some (.struct fs) ∧ ∃ x y z : TypeId, (fs.toList.map fun f => (f.offset, f.type)) = [(0, tI), (1, tI), (2, tI), (3, tT), (9, tC), (11, x), (12, y), (14, z)]
  slice : P.underlying tOS = some (.slice tO)
  cO : P.cellsOf tO = 15
  cellf : ∃ fs : Array Field, P.underlying tC = some (.struct fs) ∧ (fs.toList.map fun f => (f.offset, f.type)) = [(0, tI), (1, tI)]
  cC : P.cellsOf tC = 2
theorem zko {m : Nat} {cs : List Value} {xs : List (DataW H × List MemPlace)} {fs : Array Field} {L : List (Nat × TypeId)} (hfs : (fs.toList.map fun f => (f.offset, f.type)) = L)
    (hall : ∀ (i : Nat) (f : Field), fs[i]? = some f → ∃ x, xs[i]? = some x ∧ DataW.trod enc P W 0 sp true m f.type ((cs.drop f.offset).take (P.cellsOf f.type)) = some x) (i o : Nat) (u : TypeId) (hi : L[i]? = some (o, u)) :
    ∃ x, xs[i]? = some x ∧ DataW.trod enc P W 0 sp true m u ((cs.drop o).take (P.cellsOf u)) = some x := by
  rw [← hfs, List.getElem?_map, Option.map_eq_some_iff] at hi
  obtain ⟨f, hf1, hf2⟩ := hi
  obtain ⟨x, hx, hd⟩ := hall i f (by simpa using hf1)
  cases hf2
  exact ⟨x, hx, hd⟩
theorem zc4 {tT tS tI tG tU tO tOS tC : TypeId} (T : TermTypes P tT tS tI tG tU) (Ot : OpTypesW P tO tOS tT tI tC) {w : DataW H → Nat} (hw : Wt w) {fuel : Nat} {cs : List Value} {d : DataW H} {ps : List MemPlace} (h : DataW.trod enc P W 0 sp true fuel tO cs = some (d, ps)) :
    ∃ (v : OpV) (a : Option Addr) (c : Nat), cs.length = 15 ∧ ((cs.map (ab P W)).drop 1).take 1 = [.int .i64 v.kind] ∧ ((cs.map (ab P W)).drop 2).take 1 = [.int .i64 v.num] ∧ ((cs.map (ab P W)).drop 3).take 6 = six v.tm a c ∧
      ((cs.map (ab P W)).drop 9).take 2 = [.int .i64 v.cell.1, .int .i64 v.cell.2] ∧ RepT (heapW P W) v.tm (six v.tm a c) ∧ 7 * nd v.tm ≤ w d := by
  obtain ⟨fs, hf, x, y, z, hfs⟩ := Ot.fields
  obtain ⟨m, xs, rfl, hl, rfl, hall⟩ := z39 hf h
  rw [Ot.cO] at hl
  have fld := zko hfs hall
  obtain ⟨⟨d1, p1⟩, x1, t1⟩ := fld 1 1 tI rfl
  obtain ⟨⟨d2, p2⟩, x2, t2⟩ := fld 2 2 tI rfl
  obtain ⟨⟨d3, p3⟩, x3, t3⟩ := fld 3 3 tT rfl
  obtain ⟨⟨d4, p4⟩, x4, t4⟩ := fld 4 9 tC rfl
  rw [T.cI] at t1 t2
  rw [T.cT] at t3
  rw [Ot.cC] at t4
  obtain ⟨k, h1, -⟩ := z38 T.int t1
  obtain ⟨n, h2, -⟩ := z38 T.int t2
  obtain ⟨t, hr, hn⟩ := zn4 T hw _ _ _ _ t3
  obtain ⟨a, c, cells, h6, -⟩ := hr.six
  obtain ⟨fs2, hf2, hfs2⟩ := Ot.cellf
  obtain ⟨m2, xs2, rfl, hl2, rfl, hall2⟩ := z39 hf2 t4
  have fld2 := zko hfs2 hall2
  obtain ⟨⟨d5, p5⟩, -, t5⟩ := fld2 0 0 tI rfl
  obtain ⟨⟨d6, p6⟩, -, t6⟩ := fld2 1 1 tI rfl
  rw [T.cI] at t5 t6
  obtain ⟨u, h5, -⟩ := z38 T.int t5
  obtain ⟨v, h7, -⟩ := z38 T.int t6
  have hb : w d3 ≤ w (.agg (xs.map (·.1))) := by
    have h1 := hw.agg (xs.map (·.1))
    match xs, x3, h1 with
    | y0 :: y1 :: y2 :: y3 :: r, x3, h1 =>
      cases x3
      simp only [List.map_cons, List.sum_cons] at h1
      simp only [List.map_cons]
      omega
  have hc : (cs.drop 9).take 2 = [.int .i64 u, .int .i64 v] := by
    rw [Ot.cC] at hl2
    generalize (cs.drop 9).take 2 = l at *
    match l, hl2 with
    | [p, q], _ =>
      simp only [List.drop_zero, List.take_succ_cons, List.take_zero, List.drop_succ_cons] at h5 h7
      cases h5
      cases h7
      rfl
  refine ⟨⟨k, n, t, (u, v)⟩, a, c, hl, ?_, ?_, ?_, ?_, by rw [← h6]; exact hr, by simp only; omega⟩
  · rw [← List.map_drop, ← List.map_take, h1]; rfl
  · rw [← List.map_drop, ← List.map_take, h2]; rfl
  · rw [← List.map_drop, ← List.map_take]; exact h6
  · rw [← List.map_drop, ← List.map_take, hc]; rfl
theorem zje {tT tS tI tG tU tO tOS tC : TypeId} (T : TermTypes P tT tS tI tG tU) (Ot : OpTypesW P tO tOS tT tI tC) {w : DataW H → Nat} (hw : Wt w) {v : Value} {fuel : Nat} {d : DataW H} {ps : List MemPlace} (h : DataW.trod enc P W 0 sp true fuel tOS v.cells.toList = some (d, ps)) (hv : ∀ cs, v ≠ .agg cs) :
    ∃ B a c, abV P W v = .slice a B.length c ∧ RepO15 (heapW P W) B a c ∧ 7 * nd.ndL (B.map (·.tm)) ≤ w d := by
  have hc : v.cells.toList = [v] := by
    unfold Value.cells
    split
    · rename_i cs; exact absurd rfl (hv cs)
    · rfl
  have habv : abV P W v = ab P W v := by
    unfold abV
    split
    · rename_i cs; exact absurd rfl (hv _)
    · rfl
  rw [hc] at h
  rw [habv]
  rcases z5r Ot.slice h with e | ⟨a, c, m, elems, rest, rfl, e, hnc, hcm, rfl, hel⟩
  · cases e
    exact ⟨[], none, 0, rfl, ⟨Nat.le_refl _, Nat.zero_le _, fun i hi => by simp at hi⟩, by simp [z7i]⟩
  · cases e
    rw [Ot.cO] at hel
    have hsp : 0 < elems.length → a.spot = none := fun hn => by
      obtain ⟨es, he, _⟩ := hel 0 elems[0] (List.getElem?_eq_getElem hn)
      exact z8c (by omega) he
    have key : ∀ i, ∃ p : OpV, ∀ x, elems[i]? = some x → 7 * nd p.tm ≤ w x.1 ∧ ∃ a' c', (heapW P W).load ⟨a.block, a.off + i * 15 + 1, none⟩ 1 = some [.int .i64 p.kind] ∧ (heapW P W).load ⟨a.block, a.off + i * 15 + 2, none⟩ 1 = some [.int .i64 p.num] ∧
        (heapW P W).load ⟨a.block, a.off + i * 15 + 3, none⟩ 6 = some (six p.tm a' c') ∧ (heapW P W).load ⟨a.block, a.off + i * 15 + 9, none⟩ 2 = some [.int .i64 p.cell.1, .int .i64 p.cell.2] ∧ RepT (heapW P W) p.tm (six p.tm a' c') := fun i => by
      by_cases hi : i < elems.length
      · obtain ⟨es, he, ht⟩ := hel i elems[i] (List.getElem?_eq_getElem hi)
        obtain ⟨v, a', c', e0, e1, e2, e3, e4, e5, e6⟩ := zc4 T Ot hw (d := elems[i].1) (ps := elems[i].2) ht
        have hld := (z52 (P := P) (by omega) he (hsp (by omega))).1
        refine ⟨v, fun x hx => ?_⟩
        rw [List.getElem?_eq_getElem hi] at hx
        cases hx
        exact ⟨e6, a', c', (z60 hld (by omega)).trans (congrArg some e1), (z60 hld (by omega)).trans (congrArg some e2), (z60 hld (by omega)).trans (congrArg some e3), (z60 hld (by omega)).trans (congrArg some e4), e5⟩
      · exact ⟨⟨0, 0, .mk 0 ByteArray.empty ByteArray.empty 0 0 [], (0, 0)⟩, fun x hx => absurd (List.getElem?_eq_some_iff.1 hx).1 hi⟩
    obtain ⟨B, hB⟩ := Classical.axiomOfChoice key
    have hlen : ((List.range elems.length).map B).length = elems.length := by simp
    have hsum := zhy (w := w) elems (fun i => (B i).tm) fun i x hx => (hB i x hx).1
    have hmap : ((List.range elems.length).map B).map (·.tm) = (List.range elems.length).map fun i => (B i).tm := by rw [List.map_map]; rfl
    have hws := hw.slice (elems.map (·.1)) rest
    by_cases hn : 0 < elems.length
    · have hbl : a.block < W.heap.size := by
        obtain ⟨es, he, _⟩ := hel 0 elems[0] (List.getElem?_eq_getElem hn)
        exact (z52 (P := P) (by omega) he (hsp hn)).2.2
      have hab : ab P W (.slice (some a) elems.length c) = .slice (some a) ((List.range elems.length).map B).length c := by
        unfold ab
        rw [hlen]
        simp only
        rw [if_pos ⟨hnc, hcm⟩, if_pos ⟨hsp hn, hbl⟩]
      refine ⟨(List.range elems.length).map B, some a, c, hab, ⟨by rw [hlen]; exact hnc, hcm, fun i hi => ?_⟩, by rw [hmap]; omega⟩
      rw [hlen] at hi
      obtain ⟨-, a', c', h1, h2, h3, h4, h5⟩ := hB i elems[i] (List.getElem?_eq_getElem hi)
      have e : ((List.range elems.length).map B)[i]'(by rw [hlen]; exact hi) = B i := by simp
      rw [e]
      have hs := hsp hn
      obtain ⟨ab', ao, as'⟩ := a
      simp only at hs
      subst hs
      exact ⟨ab', ao, a', c', rfl, h1, h2, h3, h4, h5⟩
    · have hn0 : elems.length = 0 := by omega
      obtain ⟨a', hab⟩ : ∃ a', ab P W (.slice (some a) elems.length c) = .slice (some a') 0 c := by
        unfold ab
        rw [hn0]
        simp only
        rw [if_pos ⟨Nat.zero_le _, hcm⟩]
        split
        · exact ⟨_, rfl⟩
        · exact ⟨_, rfl⟩
      exact ⟨[], some a', c, hab, ⟨Nat.zero_le _, hcm, fun i hi => by simp at hi⟩, by simp [z7i]⟩
end
end Go.Proofs.YthkogijbkachdaaDoor.hb
end
