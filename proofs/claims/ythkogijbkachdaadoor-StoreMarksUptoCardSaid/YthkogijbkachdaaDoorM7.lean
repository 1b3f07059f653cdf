import Derived.Test.YthkogijbkachdaaDoorM3
import Derived.Test.YthkogijbkachdaaDoorM6
import Derived.Test.YthkogijbkachdaaDoorM5
/- Lemmas on the program's own code, towards the laws of this folder, part 7. Conditions: as each lemma says. -/
-- Sq8
section
namespace Go.Proofs.YthkogijbkachdaaDoor.hb
open Go Go.RowKit Go.Hb
variable {ok : Ok}
set_option maxRecDepth 10000
attribute [local irreducible] LX LG EL STG SOP SGO SGD SAL SRD SEF SEG SLK SCK ES
theorem zli {H : Heap} {b o : Nat} {x : Value} {ys : List Value} (h : H.load ⟨b, o, none⟩ 7 = some (x :: ys)) : H.load ⟨b, o, none⟩ 1 = some [x] ∧ H.load ⟨b, o + 1, none⟩ 6 = some ys := by
  unfold Heap.load at h ⊢
  simp only at h ⊢
  cases hc : H.cells b with
  | none => rw [hc] at h; cases h
  | some cs =>
    rw [hc] at h
    simp only at h ⊢
    split at h
    · rename_i hl
      have e : (cs.drop o).take 7 = x :: ys := Option.some.inj h
      rw [Nat.beq_eq] at hl
      have e1 : (cs.drop o).take 1 = [x] := by
        have := congrArg (List.take 1) e
        rw [List.take_take] at this; simpa using this
      have e2 : (cs.drop (o + 1)).take 6 = ys := by
        have := congrArg (List.drop 1) e
        rw [List.drop_take, List.drop_drop] at this; simpa using this
      have hl2 : ys.length = 6 := by rw [e] at hl; simpa using hl
      rw [e1, e2]
      refine ⟨rfl, ?_⟩
      rw [if_pos (by rw [Nat.beq_eq]; exact hl2)]
    · cases h
theorem zhc (a b : List Tm) : nd.ndL (a ++ b) = nd.ndL a + nd.ndL b := by
  induction a with
  | nil => rw [nd.ndL]; simp
  | cons t a ih => rw [List.cons_append, nd.ndL, nd.ndL, ih]; omega
theorem z35 (l : List Tm) (i : Nat) : nd.ndL (l.take i) ≤ nd.ndL l := by
  have := zhc (l.take i) (l.drop i)
  rw [List.take_append_drop] at this; omega
theorem z36 {l : List Tm} {i : Nat} (h : i < l.length) : nd.ndL (l.take (i + 1)) = nd.ndL (l.take i) + nd l[i] := by
  rw [← List.take_append_getElem h, zhc, nd.ndL, nd.ndL, Nat.add_zero]
set_option maxHeartbeats 16000000 in
theorem z8v {l : List Tm} {la : Option Addr} {lc : Nat} {cells : Nat → List Value} {Bs : List (Int × Tm)} {ab : Option Addr} {cb : Nat} {forget to : Int} {H : Heap} (rl : RepL H l la lc cells) (rb : RepB7 H Bs ab cb)
    (hw : H.wf) (hsz : nd.ndL l + nd.ndL (Bs.map (·.2)) ≤ 149796) :
    EvF Tryd.prog okT 3 [.slice la l.length lc, .slice ab Bs.length cb, .int .i64 forget, .int .i64 to] H fun v _ => v = .bool true := by
  have hll := z3q l
  have hbl := z3q (Bs.map (·.2))
  rw [List.length_map] at hbl
  refine EvF.enter rfl Tryd.func3 (by decide) rfl ?_
  repeat' (first | refine EvC.seq ?_ | refine EvC.scope ?_ | refine EvC.block ?_ | (refine EvC.skip ?_) | (refine EvC.exit ?_) | (refine EvC.ret ?_; try simp only [z01, z00]) | (refine EvC.reg ?_; simp (config := { maxSteps := 2000000 }) (disch := first | omega | rfl) only [sB, initTm, Nat.reduceEqDiff, Nat.reduceAdd, reduceCtorEq, cl5]))
  refine (zbo hw).mono ?_
  rintro v A0 ⟨rfl, k0⟩
  repeat' (first | refine EvC.seq ?_ | refine EvC.scope ?_ | refine EvC.block ?_ | (refine EvC.skip ?_) | (refine EvC.exit ?_) | (refine EvC.ret ?_; try simp only [z01, z00]) | (refine EvC.reg ?_; simp (config := { maxSteps := 2000000 }) (disch := first | omega | rfl) only [sB, Nat.reduceEqDiff, reduceCtorEq, cl6]))
  refine (zmn k0.wf).mono ?_
  rintro v A1 ⟨s, rfl, hs1, k1⟩
  repeat' (first | refine EvC.seq ?_ | refine EvC.scope ?_ | refine EvC.block ?_ | (refine EvC.skip ?_; try simp only [z03]) | (refine EvC.exit ?_) | (refine EvC.ret ?_; try simp only [z01, z00]) | (refine EvC.reg ?_; simp (config := { maxSteps := 2000000 }) (disch := first | omega | rfl) only [sB, Nat.reduceEqDiff, reduceCtorEq, bEqP, Bool.not_true, Bool.false_eq_true]) | (refine EvC.condT ?_ ?_; simp (config := { maxSteps := 2000000 }) (disch := first | omega | rfl) only [sB, Nat.reduceEqDiff, reduceCtorEq]; refine z02 ?_) | (refine EvC.condF ?_ ?_; simp (config := { maxSteps := 2000000 }) (disch := first | omega | rfl) only [sB, Nat.reduceEqDiff, reduceCtorEq]; refine z02 ?_))
  have k01 := k0.trans k1
  have hB : H.next ≤ A0.next := k0.next
  generalize A0.next = B at *
  refine EvC.loop (fun k st => ∃ tm H' i, st = ⟨tm, [], H'⟩ ∧ k = 6 - i ∧ i ≤ 6 ∧ tm.get 0 = some (.slice la l.length lc) ∧ tm.get 1 = some (.slice ab Bs.length cb) ∧ tm.get 2 = some (.int .i64 forget) ∧ tm.get 3 = some (.int .i64 to) ∧ tm.get 10 = some (.pointer (some ⟨s, 0, none⟩)) ∧ tm.get 11 = some (.int .i64 (i : Nat)) ∧
      St H' B s (mkN i) ∧ HX H H') ?_ 6 _ ?_
  rotate_left
  · exact ⟨_, _, 0, rfl, rfl, by omega, (by simp only [sG, reduceCtorEq] <;> rfl), (by simp only [sG, Nat.reduceEqDiff, reduceCtorEq] <;> rfl), (by simp only [sG, Nat.reduceEqDiff, reduceCtorEq] <;> rfl), (by simp only [sG, Nat.reduceEqDiff, reduceCtorEq] <;> rfl), (by simp only [sG, Nat.reduceEqDiff, reduceCtorEq] <;> rfl), (by simp only [sB, Nat.reduceEqDiff, reduceCtorEq] <;> rfl), hs1, k01⟩
  rintro k st ⟨tm, H', i, rfl, rfl, hi, t0, t1, t2, t3, t10, t11, hs', hx'⟩
  by_cases hlt : i < 6
  · have d1 : decide ((i : Int) < 6) = true := decide_eq_true (by omega)
    have hml := zbp i
    have ew : IntKind.i64.wrap ((i : Int) + 1) = ((i + 1 : Nat) : Int) := by rw [z0c] <;> omega
    repeat' (first | refine EvC.seq ?_ | refine EvC.scope ?_ | refine EvC.block ?_ | (refine EvC.skip ?_; try simp only [z03]) | (refine EvC.exit ?_) | (refine EvC.ret ?_; try simp only [z01, z00]) | (refine EvC.reg ?_; simp (config := { maxSteps := 2000000 }) (disch := first | omega | rfl) only [sB, Nat.reduceEqDiff, cl7, t10, t11, d1]) | (refine EvC.condT ?_ ?_; simp (config := { maxSteps := 2000000 }) (disch := first | omega | rfl) only [sB, Nat.reduceEqDiff]; refine z02 ?_))
    refine (zl5 hs' hx'.wf (by rw [hml.2.1]; unfold most; omega) (by rw [hml.2.2.1]; unfold most; omega) (by rw [hml.1]; unfold most; omega) (by rw [hml.2.2.2.1]; unfold most; omega)).mono ?_
    rintro v H2 ⟨-, hs2, hx2⟩
    repeat' (first | refine EvC.seq ?_ | refine EvC.scope ?_ | refine EvC.block ?_ | (refine EvC.skip ?_) | (refine EvC.exit ?_) | (refine EvC.ret ?_; try simp only [z01, z00]) | (refine EvC.reg ?_; simp (config := { maxSteps := 2000000 }) (disch := first | omega | rfl) only [sB, Nat.reduceEqDiff, t11, ew]))
    exact ⟨_, by omega, _, _, i + 1, rfl, rfl, by omega, (by simp only [sG, reduceCtorEq, t0] <;> rfl), (by simp only [sG, Nat.reduceEqDiff, t1] <;> rfl), (by simp only [sG, Nat.reduceEqDiff, t2] <;> rfl), (by simp only [sG, Nat.reduceEqDiff, t3] <;> rfl), (by simp only [sG, Nat.reduceEqDiff, t10] <;> rfl), (by simp only [sG, Nat.reduceEqDiff] <;> rfl), hs2, hs'.hx hx' hB hx2⟩
  obtain rfl : i = 6 := by omega
  have d6 : decide (((6 : Nat) : Int) < 6) = false := by decide
  repeat' (first | refine EvC.seq ?_ | refine EvC.scope ?_ | refine EvC.block ?_ | (refine EvC.skip ?_) | (refine EvC.exit ?_; try simp only [sB]) | (refine EvC.ret ?_; try simp only [z01, z00]) | (refine EvC.reg ?_; simp (config := { maxSteps := 2000000 }) (disch := first | omega | rfl) only [sB, t11, d6]) | (refine EvC.condT ?_ ?_; simp (config := { maxSteps := 2000000 }) (disch := first | omega | rfl) only [sB, Nat.reduceEqDiff]; refine z02 ?_) | (refine EvC.condF ?_ ?_; simp (config := { maxSteps := 2000000 }) (disch := first | omega | rfl) only [sB, Nat.reduceEqDiff]; refine z02 ?_))
  have hwt : ∀ i, nd.ndL (l.take i) + nd.ndL ((Bs.map (·.2)).take i) ≤ 149796 := fun i => by
    have h1 := z35 l i
    have h2 := z35 (Bs.map (·.2)) i
    omega
  have hmm : most = 1048576 := rfl
  refine EvC.loop (fun k st => ∃ tm H' i σ C vC snaps D vD S, st = ⟨tm, [], H'⟩ ∧ k = l.length - i ∧ i ≤ l.length ∧ tm.get 0 = some (.slice la l.length lc) ∧ tm.get 1 = some (.slice ab Bs.length cb) ∧ tm.get 2 = some (.int .i64 forget) ∧ tm.get 3 = some (.int .i64 to) ∧ tm.get 10 = some (.pointer (some ⟨s, 0, none⟩)) ∧
      tm.get 12 = some vC ∧ tm.get 13 = some vD ∧ tm.get 14 = some (.int .i64 (i : Nat)) ∧ PI σ C snaps D i i (nd.ndL (l.take i) + nd.ndL ((Bs.map (·.2)).take i)) i ∧ St H' B s σ ∧ Cl H' s B C vC D vD S ∧ HX H H') ?_ l.length _ ?_
  rotate_left
  · refine ⟨_, _, 0, _, [], .slice none 0 0, [], [], .slice none 0 0, fun _ => False, rfl, rfl, by omega, (by simp only [sG, reduceCtorEq, t0] <;> rfl), (by simp only [sG, Nat.reduceEqDiff, t1] <;> rfl), (by simp only [sG, Nat.reduceEqDiff, t2] <;> rfl), (by simp only [sG, Nat.reduceEqDiff, t3] <;> rfl), (by simp only [sG, Nat.reduceEqDiff, t10] <;> rfl), (by simp only [sG, Nat.reduceEqDiff] <;> rfl), (by simp only [sG, Nat.reduceEqDiff] <;> rfl), (by simp only [sB, Nat.reduceEqDiff] <;> rfl), ?_, hs', ?_, hx'⟩
    · rw [List.take_zero, List.take_zero, nd.ndL]; exact PI.start
    · exact ⟨.inl ⟨rfl, rfl⟩, .inl ⟨rfl, rfl⟩, fun d hd => (by cases hd), fun n hn => hn.elim, fun n hn => (by cases hn), fun n hn => (by cases hn)⟩
  clear t0 t1 t2 t3 t10 t11 d6 hlt hs' hx' hs1 k0 k1 k01 hi tm H'
  rintro k st ⟨tm, H', i, σ, C, vC, snaps, D, vD, S, rfl, rfl, hi, t0, t1, t2, t3, t10, t12, t13, t14, hP, hs', hC, hx'⟩
  have wH := hx'.wf
  have hsl := hs'.lt wH
  obtain ⟨hTok, hfew⟩ := hP.tok (hwt i)
  by_cases hlt : i < l.length
  · have ewi : IntKind.i64.wrap ((i : Int) + 1) = ((i + 1 : Nat) : Int) := by rw [z0c] <;> omega
    have hCl := hP.cl
    have hDl := hP.dl
    obtain ⟨ac, cc, rfl, hc1, hc2, hcell⟩ := hC.cell
    obtain ⟨ad, cd, rfl, hd1, hd2, htold⟩ := hC.told
    repeat' (first | refine EvC.seq ?_ | refine EvC.scope ?_ | refine EvC.block ?_ | (refine EvC.skip ?_; try simp only [z03]) | (refine EvC.exit ?_) | (refine EvC.ret ?_; try simp only [z01, z00]) | (refine EvC.reg ?_; simp (config := { maxSteps := 2000000 }) (disch := first | omega | rfl) only [sB, Nat.reduceEqDiff, reduceCtorEq, ln22, t0, t14, decl hlt]) | (refine EvC.condT ?_ ?_; simp (config := { maxSteps := 2000000 }) (disch := first | omega | rfl) only [sB, Nat.reduceEqDiff]; refine z02 ?_))
    refine EvC.loop (fun k st => ∃ tm2 H2 j acc a c, st = ⟨tm2, [], H2⟩ ∧ k = i - j ∧ j ≤ i ∧ tm2.get 0 = some (.slice la l.length lc) ∧ tm2.get 1 = some (.slice ab Bs.length cb) ∧ tm2.get 2 = some (.int .i64 forget) ∧ tm2.get 3 = some (.int .i64 to) ∧ tm2.get 10 = some (.pointer (some ⟨s, 0, none⟩)) ∧
        tm2.get 12 = some (.slice ac C.length cc) ∧ tm2.get 13 = some (.slice ad D.length cd) ∧ tm2.get 14 = some (.int .i64 (i : Nat)) ∧ tm2.get 15 = some (.slice a acc.length c) ∧ tm2.get 16 = some (.int .i64 (j : Nat)) ∧ FL H2 32 (Rg H'.next H2.next) acc a c ∧ acc = (C.take j).map (fun c => (termS σ c).1) ∧ HX H' H2) ?_ i _ ?_
    rotate_left
    · exact ⟨_, _, 0, [], none, 0, rfl, rfl, by omega, (by simp only [sG, reduceCtorEq, t0] <;> rfl), (by simp only [sG, Nat.reduceEqDiff, t1] <;> rfl), (by simp only [sG, Nat.reduceEqDiff, t2] <;> rfl), (by simp only [sG, Nat.reduceEqDiff, t3] <;> rfl), (by simp only [sG, Nat.reduceEqDiff, t10] <;> rfl), (by simp only [sG, Nat.reduceEqDiff, t12] <;> rfl), (by simp only [sG, Nat.reduceEqDiff, t13] <;> rfl), (by simp only [sG, Nat.reduceEqDiff, t14] <;> rfl), (by simp only [sB, Nat.reduceEqDiff] <;> rfl), (by simp only [sB, Nat.reduceEqDiff] <;> rfl), .nil _, rfl, HX.refl wH⟩
    clear t0 t1 t2 t3 t10 t12 t13 t14
    rintro k st ⟨tm2, H2, j, acc, a, c, rfl, rfl, hj, t0, t1, t2, t3, t10, t12, t13, t14, t15, t16, hfl, hacc, hx2⟩
    have w2 := hx2.wf
    by_cases hjl : j < i
    · have dj : decide ((j : Int) < C.length) = true := decide_eq_true (by omega)
      have hjC : j < C.length := by omega
      obtain ⟨b, rfl, ldc⟩ := hcell j hjC
      have ldc2 := hx2.load wH ldc
      have ewj : IntKind.i64.wrap ((j : Int) + 1) = ((j + 1 : Nat) : Int) := by rw [z0c] <;> omega
      repeat' (first | refine EvC.seq ?_ | refine EvC.scope ?_ | refine EvC.block ?_ | (refine EvC.skip ?_; try simp only [z03]) | (refine EvC.exit ?_) | (refine EvC.ret ?_; try simp only [z01, z00]) | (refine EvC.reg ?_; simp (config := { maxSteps := 2000000 }) (disch := first | omega | rfl) only [sB, Nat.reduceEqDiff, ln28, ia28, ld37, cl8, t10, t12, t16, dj, ldc2]) | (refine EvC.condT ?_ ?_; simp (config := { maxSteps := 2000000 }) (disch := first | omega | rfl) only [sB, Nat.reduceEqDiff]; refine z02 ?_))
      refine (zgy hTok hP.wf.lo (hs'.keep wH hx2) w2).mono ?_
      rintro v H3 ⟨cs3, rfl, ⟨a3, c3, rfl, hbd3, hfl3⟩, hx3⟩
      obtain ⟨H4, e4, hx4, g4, n4, w4⟩ := z1x hx3.wf (.row zero6 32) (.row (six (termS σ C[j]).1 a3 c3) 32)
      have q4 := row6 g4
      obtain ⟨H5, e5, hx5, g5, n5, w5⟩ := new1 w4 (.row (six (termS σ C[j]).1 a3 c3) 32)
      have hx35 := hx3.trans (hx4.trans hx5)
      have hn3 := hx3.next
      have hacl : acc.length = j := by rw [hacc]; simp; omega
      have hflA : FL H5 32 (Rg H'.next H2.next) acc a c := hfl.keep hx35 w2
      have hflB : FL H5 32 (Rg H2.next H3.next) (termS σ C[j]).1.args a3 c3 := hfl3.keep (hx4.trans hx5) hx3.wf
      obtain ⟨H6, e6, hfl6, hk6, n6⟩ := FL.push (P := Tryd.prog) (S2 := Rg H'.next (H5.next + 1)) (c1 := 1) ap22 hflA w5 (row6 g5).2.2.2.2.2.2 hflB hbd3 (fun x h1 h2 => by have := h1.1; have := h2.2; omega) (fun x h => by have := h.2; omega) (fun x h => by have := h.2; omega) (by omega)
        (fun x h => by have := hx2.next; rcases h with h | h | h; exact ⟨h.1, by have := h.2; omega⟩; exact ⟨by have := h.1; omega, by have := h.2; omega⟩; exact ⟨by omega, by omega⟩)
      repeat' (first | refine EvC.seq ?_ | refine EvC.scope ?_ | refine EvC.block ?_ | (refine EvC.skip ?_) | (refine EvC.exit ?_) | (refine EvC.ret ?_; try simp only [z01, z00]) | (refine EvC.reg ?_; simp (config := { maxSteps := 2000000 }) (disch := first | omega | rfl) only [sB, Nat.reduceEqDiff, Nat.reduceAdd, Value.cells, one, layC, ld32, zcu, t15, t16, q4, e5, e6, ewj]) | (refine z0j ?_; simp (config := { maxSteps := 2000000 }) (disch := first | omega | rfl) only [sB, dAlloc, Nat.reduceEqDiff, Nat.reduceAdd, one, zr32, st32, e4]))
      have hx6 : HX H' H6 := (hx2.trans hx35).then hk6 fun x hx q => by have := q.1; omega
      refine ⟨_, by omega, _, _, j + 1, acc ++ [(termS σ C[j]).1], _, _, rfl, rfl, by omega, (by simp only [sG, reduceCtorEq, t0] <;> rfl), (by simp only [sG, Nat.reduceEqDiff, t1] <;> rfl), (by simp only [sG, Nat.reduceEqDiff, t2] <;> rfl), (by simp only [sG, Nat.reduceEqDiff, t3] <;> rfl), (by simp only [sG, Nat.reduceEqDiff, t10] <;> rfl), (by simp only [sG, Nat.reduceEqDiff, t12] <;> rfl), (by simp only [sG, Nat.reduceEqDiff, t13] <;> rfl), (by simp only [sG, Nat.reduceEqDiff, t14] <;> rfl), by rw [List.length_append]; first | (simp only [sB, Nat.reduceEqDiff]; rfl) | simp only [], (by simp only [sG, Nat.reduceEqDiff] <;> rfl), ?_, ?_, hx6⟩
      · rw [n6]; exact hfl6
      · rw [hacc, ← List.take_append_getElem hjC, List.map_append]; rfl
    · obtain rfl : j = i := by omega
      have dj : decide ((j : Int) < C.length) = false := decide_eq_false (by omega)
      repeat' (first | refine EvC.seq ?_ | refine EvC.scope ?_ | refine EvC.block ?_ | (refine EvC.skip ?_) | (refine EvC.exit ?_; try simp only [sB, Nat.reduceEqDiff]) | (refine EvC.ret ?_; try simp only [z01, z00]) | (refine EvC.reg ?_; simp (config := { maxSteps := 2000000 }) (disch := first | omega | rfl) only [sB, Nat.reduceEqDiff, Value.cells, one, layC, ln28, zls, t12, t13, t15, t16, dj]) | (refine EvC.condT ?_ ?_; simp (config := { maxSteps := 2000000 }) (disch := first | omega | rfl) only [sB, Nat.reduceEqDiff]; refine z02 ?_) | (refine EvC.condF ?_ ?_; simp (config := { maxSteps := 2000000 }) (disch := first | omega | rfl) only [sB, Nat.reduceEqDiff]; refine z02 ?_))
      have hs2 := hs'.keep wH hx2
      have hC2 := hC.hx wH hsl hx2
      have hs2l := hs2.lt w2
      obtain ⟨H3, e3, hx3, g3, n3, w3⟩ := new1 w2 (.row [.slice a acc.length c] 22)
      have hx23 := hx2.trans hx3
      have hC3 := hC2.hx w2 hs2l hx3
      have hs3 := hs2.keep w2 hx3
      have hnx2 := hx2.next
      obtain ⟨H4, vD2, e4, hC4, hs4, w4, hn4, hk4⟩ := hC3.pushD (P := Tryd.prog) (t := 29) (S2 := Rg H'.next H2.next) (d := (acc, a, c)) (c1 := 1) hs3 w3 ap29 (z2b g3) (by omega) (hfl.keep hx3 w2)
        (fun n hn => by
          have h1 := hn.1
          have h2 := hn.2
          refine ⟨by have := hs'.ge; omega, by omega, hs'.fresh wH hx23 h1, fun q => ?_, fun q => ?_⟩
          · have := (hC.fc.lo q).2; omega
          · have := (hC.fd.lo q).2; omega)
      have hxH3 := hx'.trans hx23
      have hxH4 : HX H H4 := ⟨by have := hxH3.next; omega, fun n hn => by
        rw [hk4 n (by have := hxH3.next; omega) (fun q => by have := (hC3.fd.lo q).1; omega)]; exact hxH3.keep n hn, w4⟩
      have hml : σ.marks.length = j := by rw [hP.marks, List.length_map, hP.sn]
      repeat' (first | refine EvC.seq ?_ | refine EvC.scope ?_ | refine EvC.block ?_ | (refine EvC.skip ?_) | (refine EvC.exit ?_) | (refine EvC.ret ?_; try simp only [z01, z00]) | (refine EvC.reg ?_; simp (config := { maxSteps := 2000000 }) (disch := first | omega | rfl) only [sB, Nat.reduceEqDiff, cl9, t10, t14]) | (refine z0j ?_; simp (config := { maxSteps := 2000000 }) (disch := first | omega | rfl) only [sB, Nat.reduceEqDiff, e3, e4]))
      refine (zl6 hs4 w4 (by omega)).mono ?_
      rintro v H5 ⟨rfl, hs5, hx5⟩
      have hP1 : PI { σ with marks := σ.marks ++ [((σ.trail.length : Int), (σ.cells.length : Int), (σ.vars.length : Int))] } C (snaps ++ [σ]) (D ++ [(acc, a, c)]) j (j + 1) _ j := hP.mark (d := (acc, a, c)) (by rw [hacc, List.take_of_length_le (by omega)]) hfew
      have hC5 := hC4.sx w4 hx5
      have w5 := hx5.wf
      have hxH5 := hs4.hx hxH4 hB hx5
      have hmi : ((σ.marks.length : Nat) : Int) = (j : Int) := by omega
      obtain ⟨bl, ol, a1, c1, rfl, hld, hr1⟩ := rl.el hlt
      have hld5 := hxH5.load hw hld
      repeat' (first | refine EvC.seq ?_ | refine EvC.scope ?_ | refine EvC.block ?_ | (refine EvC.skip ?_; try simp only [z03]) | (refine EvC.exit ?_) | (refine EvC.ret ?_; try simp only [z01, z00]) | (refine EvC.reg ?_; simp (config := { maxSteps := 2000000 }) (disch := first | omega | rfl) only [sB, Nat.reduceEqDiff, reduceCtorEq, ld32, ia22, cl10, t0, t10, t14, hld5]) | (refine z0j ?_; simp (config := { maxSteps := 2000000 }) (disch := first | omega | rfl) only [sA, z1p hmi]) | (refine EvC.condT ?_ ?_; simp (config := { maxSteps := 2000000 }) (disch := first | omega | rfl) only [sB, Nat.reduceEqDiff]; refine z02 ?_) | (refine EvC.condF ?_ ?_; simp (config := { maxSteps := 2000000 }) (disch := first | omega | rfl) only [sB, Nat.reduceEqDiff]; refine z02 ?_))
      have hwl : nd.ndL (l.take j) + nd.ndL ((Bs.map (·.2)).take j) + nd l[j] ≤ 149796 := by
        have h1 := z35 l (j + 1)
        rw [z36 hlt] at h1
        have h2 := z35 (Bs.map (·.2)) j
        omega
      refine (zh7 hw hB hr1 hxH5 hs5 hP1.wf.lo (fun _ => hP1.few hwl)).mono ?_
      rintro v H6 ⟨rfl, hs6, hx6⟩
      have hbdl := zha _ (Nat.lt_succ_self _) hr1
      have hP2 := hP1.lay hbdl
      have hlw := zbq hP1.wf hbdl
      have hC6 := hC5.sx w5 hx6
      have w6 := hx6.wf
      have hxH6 := hs5.hx hxH5 hB hx6
      generalize hlv : layV { σ with marks := σ.marks ++ [((σ.trail.length : Int), (σ.cells.length : Int), (σ.vars.length : Int))] } l[j] = lv at *
      obtain ⟨σ2, cN, eN⟩ := lv
      simp only at hs6 hP2 hlw
      obtain ⟨H7, e7, hx7, g7, n7, w7⟩ := z1x w6 (.row [.int .i64 0, .int .i64 0] 37) (.row (two cN) 37)
      have hs7 := hs6.keep w6 hx7
      have hC7 := hC6.hx w6 (hs6.lt w6) hx7
      have q7 := z0z g7
      repeat' (first | refine EvC.seq ?_ | refine EvC.scope ?_ | refine EvC.block ?_ | (refine EvC.skip ?_) | (refine EvC.exit ?_) | (refine EvC.ret ?_; try simp only [z01, z00]) | (refine EvC.reg ?_; simp (config := { maxSteps := 2000000 }) (disch := first | omega | rfl) only [sB, Nat.reduceEqDiff]) | (refine z0j ?_; simp (config := { maxSteps := 2000000 }) (disch := first | omega | rfl) only [sB, dAlloc, Nat.reduceEqDiff, Nat.reduceAdd, one, zr37, st37, e7]) | (refine EvC.condT ?_ ?_; simp (config := { maxSteps := 2000000 }) (disch := first | omega | rfl) only [sB, Nat.reduceEqDiff]; refine z02 ?_) | (refine EvC.condF ?_ ?_; simp (config := { maxSteps := 2000000 }) (disch := first | omega | rfl) only [sB, Nat.reduceEqDiff]; refine z02 ?_))
      have hC1l : C.length + 1 ≤ most := by omega
      refine EvC.join (fun st => ∃ tm H8 vC8 c8, st = ⟨tm, [], H8⟩ ∧ tm.get 0 = some (.slice (some ⟨bl, ol, none⟩) l.length lc) ∧ tm.get 1 = some (.slice ab Bs.length cb) ∧ tm.get 2 = some (.int .i64 forget) ∧ tm.get 3 = some (.int .i64 to) ∧ tm.get 10 = some (.pointer (some ⟨s, 0, none⟩)) ∧
          tm.get 12 = some vC8 ∧ tm.get 13 = some vD2 ∧ tm.get 14 = some (.int .i64 (j : Nat)) ∧ okC σ2 c8 ∧ Cl H8 s B (C ++ [c8]) vC8 (D ++ [(acc, a, c)]) vD2 (fun n => S n ∨ Rg H'.next H2.next n) ∧ St H8 B s σ2 ∧ HX H H8) ?_ ?_
      · have hxH7 := hxH6.trans hx7
        by_cases he0 : eN = 0
        · obtain ⟨H8, e8, hx8, g8, n8, w8⟩ := new1 w7 (.row (two cN) 37)
          have hs8 := hs7.keep w7 hx8
          obtain ⟨H9, vC9, e9, hC9, hs9, w9, hn9, hk9⟩ := (hC7.hx w7 (hs7.lt w7) hx8).pushC (P := Tryd.prog) (t := 28) (c := cN) (c1 := 1) hs8 w8 ap28 (z0z g8).1 hC1l
          have hxH8 := hxH7.trans hx8
          have hC8 := hC7.hx w7 (hs7.lt w7) hx8
          have hxH9 : HX H H9 := ⟨by have := hxH8.next; omega, fun n hn => by
            rw [hk9 n (by have := hxH8.next; omega) (fun q => by have := (hC8.fc.lo q).1; omega)]; exact hxH8.keep n hn, w9⟩
          (repeat refine EvC.seq ?_); refine EvC.condT (by simp (config := { maxSteps := 2000000 }) (disch := first | omega | rfl) only [sB, Nat.reduceEqDiff, z1a he0]) ?_; (try refine EvC.skip ?_); (try simp only [z03, z0n])
          repeat' (first | refine EvC.seq ?_ | refine EvC.scope ?_ | refine EvC.block ?_ | (refine EvC.skip ?_) | (refine EvC.exit ?_) | (refine EvC.ret ?_; try simp only [z01, z00]) | (refine EvC.reg ?_; simp (config := { maxSteps := 2000000 }) (disch := first | omega | rfl) only [sB, Nat.reduceEqDiff, Nat.reduceAdd, Value.cells, one, layC, ld37, zft, t12, q7, e8, e9]))
          exact ⟨_, _, vC9, cN, rfl, (by simp only [sG, reduceCtorEq, t0] <;> rfl), (by simp only [sG, Nat.reduceEqDiff, t1] <;> rfl), (by simp only [sG, Nat.reduceEqDiff, t2] <;> rfl), (by simp only [sG, Nat.reduceEqDiff, t3] <;> rfl), (by simp only [sG, Nat.reduceEqDiff, t10] <;> rfl), (by simp only [sG, Nat.reduceEqDiff] <;> rfl), (by simp only [sG, Nat.reduceEqDiff] <;> rfl), (by simp only [sG, Nat.reduceEqDiff, t14] <;> rfl), .inl (hlw.2.2.1 he0), hC9, hs9, hxH9⟩
        · obtain ⟨H8, e8, hx8, g8, n8, w8⟩ := new1 w7 (.row [.int .i64 0, .int .i64 0] 37)
          have hs8 := hs7.keep w7 hx8
          obtain ⟨H9, vC9, e9, hC9, hs9, w9, hn9, hk9⟩ := (hC7.hx w7 (hs7.lt w7) hx8).pushC (P := Tryd.prog) (t := 28) (c := (0, 0)) (c1 := 1) hs8 w8 ap28 (z0z g8).1 hC1l
          have hxH8 := hxH7.trans hx8
          have hC8 := hC7.hx w7 (hs7.lt w7) hx8
          have hxH9 : HX H H9 := ⟨by have := hxH8.next; omega, fun n hn => by
            rw [hk9 n (by have := hxH8.next; omega) (fun q => by have := (hC8.fc.lo q).1; omega)]; exact hxH8.keep n hn, w9⟩
          (repeat refine EvC.seq ?_); refine EvC.condF (by simp (config := { maxSteps := 2000000 }) (disch := first | omega | rfl) only [sB, Nat.reduceEqDiff, z14 he0]) ?_; (try refine EvC.skip ?_); (try simp only [z03, z0n])
          repeat' (first | refine EvC.seq ?_ | refine EvC.scope ?_ | refine EvC.block ?_ | (refine EvC.skip ?_) | (refine EvC.exit ?_) | (refine EvC.ret ?_; try simp only [z01, z00]) | (refine EvC.reg ?_; simp (config := { maxSteps := 2000000 }) (disch := first | omega | rfl) only [sB, Nat.reduceEqDiff, Nat.reduceAdd, Value.cells, one, layC, zft, bd37, t12, e8, e9]))
          exact ⟨_, _, vC9, (0, 0), rfl, (by simp only [sG, reduceCtorEq, t0] <;> rfl), (by simp only [sG, Nat.reduceEqDiff, t1] <;> rfl), (by simp only [sG, Nat.reduceEqDiff, t2] <;> rfl), (by simp only [sG, Nat.reduceEqDiff, t3] <;> rfl), (by simp only [sG, Nat.reduceEqDiff, t10] <;> rfl), (by simp only [sG, Nat.reduceEqDiff] <;> rfl), (by simp only [sG, Nat.reduceEqDiff] <;> rfl), (by simp only [sG, Nat.reduceEqDiff, t14] <;> rfl), .inr rfl, hC9, hs9, hxH9⟩
      clear t0 t1 t2 t3 t10 t12 t13 t14 t15 t16
      rintro st ⟨tm, H8, vC8, c8, rfl, t0, t1, t2, t3, t10, t12, t13, t14, hok8, hC8, hs8, hxH8⟩
      have hP3 := hP2.cell hok8
      have w8 := hxH8.wf
      have hwj : nd.ndL (l.take j) + nd.ndL ((Bs.map (·.2)).take j) + nd l[j] = nd.ndL (l.take (j + 1)) + nd.ndL ((Bs.map (·.2)).take j) := by rw [z36 hlt]; omega
      rw [hwj] at hP3
      by_cases hjb : j < Bs.length
      · have db : decide ((j : Int) < Bs.length) = true := decide_eq_true (by omega)
        obtain ⟨bb, ob, a9, c9, rfl, hldb, hrb⟩ := rb.el j hjb
        obtain ⟨ldv, ldt⟩ := zli (hxH8.load hw hldb)
        have hjb' : j < (Bs.map (·.2)).length := by simpa using hjb
        have hBj : (Bs.map (·.2))[j] = Bs[j].2 := by simp
        have hwb : nd.ndL ((Bs.map (·.2)).take (j + 1)) = nd.ndL ((Bs.map (·.2)).take j) + nd Bs[j].2 := by rw [z36 hjb', hBj]
        have hw149 : nd.ndL (l.take (j + 1)) + nd.ndL ((Bs.map (·.2)).take j) + nd Bs[j].2 ≤ 149796 := by have := hwt (j + 1); rw [hwb] at this; omega
        have hbdb := zha _ (Nat.lt_succ_self _) hrb
        repeat' (first | refine EvC.seq ?_ | refine EvC.scope ?_ | refine EvC.block ?_ | (refine EvC.skip ?_) | (refine EvC.exit ?_) | (refine EvC.ret ?_; try simp only [z01, z00]) | (refine EvC.reg ?_; simp (config := { maxSteps := 2000000 }) (disch := first | omega | rfl) only [sB, Nat.reduceEqDiff, ld32, cl10, ln23, ia23, zlt, t1, t10, t14, db, ldt]) | (refine EvC.condT ?_ ?_; simp (config := { maxSteps := 2000000 }) (disch := first | omega | rfl) only [sB, Nat.reduceEqDiff]; refine z02 ?_))
        refine (zh7 hw hB hrb hxH8 hs8 hP3.wf.lo (fun _ => hP3.few hw149)).mono ?_
        rintro v H9 ⟨rfl, hs9, hx9⟩
        have hP4 := hP3.lay hbdb
        have hlw9 := zbq hP3.wf hbdb
        have hC9 := hC8.sx w8 hx9
        have w9 := hx9.wf
        have hxH9 := hs8.hx hxH8 hB hx9
        generalize hlv9 : layV σ2 Bs[j].2 = lv9 at *
        obtain ⟨σ3, cM, eM⟩ := lv9
        simp only at hs9 hP4 hlw9
        obtain ⟨H10, e10, hx10, g10, n10, w10⟩ := z1x w9 (.row [.int .i64 0, .int .i64 0] 37) (.row (two cM) 37)
        have hs10 := hs9.keep w9 hx10
        have hC10 := hC9.hx w9 (hs9.lt w9) hx10
        have hxH10 := hxH9.trans hx10
        by_cases heM : eM = 0
        · obtain ⟨H11, e11, hx11, w11⟩ := z2r w10 8
          have q11 := z0z (hx11.get w10 g10)
          have q10 := z0z g10
          have hs11 := hs10.keep w10 hx11
          have hC11 := hC10.hx w10 (hs10.lt w10) hx11
          have hxH11 := hxH10.trans hx11
          obtain ⟨ldv11, -⟩ := zli (hxH11.load hw hldb)
          obtain ⟨ldv10, -⟩ := zli (hxH10.load hw hldb)
          have hcm := hlw9.2.2.1 heM
          repeat' (first | refine EvC.seq ?_ | refine EvC.scope ?_ | refine EvC.block ?_ | (refine EvC.skip ?_) | (refine EvC.exit ?_) | (refine EvC.ret ?_; try simp only [z01, z00]) | (refine EvC.reg ?_; simp (config := { maxSteps := 2000000 }) (disch := first | omega | rfl) only [sB, Nat.reduceEqDiff, z1a heM]) | (refine EvC.drw (id := 30) [([(0, 0), (1, 0), (2, 0), (3, 0), (4, 0), (5, 0), (6, 0)], some 7), ([], none)] ?_ ?_; kernel_rfl; simp (config := { maxSteps := 2000000 }) (disch := first | omega | rfl) only [sD, sB, Nat.reduceEqDiff, Nat.reduceAdd, reduceCtorEq, ld37, ia23, zlu, ld3, cl11, t1, t10, t14, e11, ldv11, q11, isAlloc, isRead, reduceCtorEq]) | (refine z0j ?_; simp (config := { maxSteps := 2000000 }) (disch := first | omega | rfl) only [sB, dAlloc, Nat.reduceEqDiff, Nat.reduceAdd, one, zr37, st37, e10]) | (refine EvC.condT ?_ ?_; simp (config := { maxSteps := 2000000 }) (disch := first | omega | rfl) only [sB, Nat.reduceEqDiff]; refine z02 ?_))
          refine (zlb hs11 w11 hP4.varb hP4.wf.lo (fun h => hP4.wf.der _ h) (by have := hP4.ft; omega)).mono ?_
          rintro v H12 ⟨rfl, hs12, hx12⟩
          have hP5 := hP4.bind Bs[j].1 cM
          have hC12 := hC11.sx w11 hx12
          have hxH12 := hs11.hx hxH11 hB hx12
          repeat' (first | refine EvC.seq ?_ | refine EvC.scope ?_ | refine EvC.block ?_ | (refine EvC.skip ?_) | (refine EvC.exit ?_) | (refine EvC.ret ?_; try simp only [z01, z00]) | (refine EvC.reg ?_; simp (config := { maxSteps := 2000000 }) (disch := first | omega | rfl) only [sB, Nat.reduceEqDiff, t14, ewi]) | (refine z7o ?_; simp (config := { maxSteps := 2000000 }) (disch := first | omega | rfl) only [sD, z5m]))
          refine ⟨_, by omega, _, _, j + 1, (bindS σ3 Bs[j].1 cM).1, C ++ [c8], vC8, snaps ++ [σ], D ++ [(acc, a, c)], vD2, _, rfl, rfl, by omega, (by simp only [sG, reduceCtorEq, t0] <;> rfl), (by simp only [sG, Nat.reduceEqDiff, t1] <;> rfl), (by simp only [sG, Nat.reduceEqDiff, t2] <;> rfl), (by simp only [sG, Nat.reduceEqDiff, t3] <;> rfl), (by simp only [sG, Nat.reduceEqDiff, t10] <;> rfl), (by simp only [sG, Nat.reduceEqDiff, t12] <;> rfl), (by simp only [sG, Nat.reduceEqDiff, t13] <;> rfl), (by simp only [sG, Nat.reduceEqDiff] <;> rfl), ?_, hs12, hC12, hxH12⟩
          rw [hwb, ← Nat.add_assoc]
          exact hP5
        · repeat' (first | refine EvC.seq ?_ | refine EvC.scope ?_ | refine EvC.block ?_ | (refine EvC.skip ?_; try simp only [sA]) | (refine EvC.exit ?_) | (refine EvC.ret ?_; try simp only [z01, z00]) | (refine EvC.reg ?_; simp (config := { maxSteps := 2000000 }) (disch := first | omega | rfl) only [sB, Nat.reduceEqDiff, z14 heM, t14, ewi]) | (refine z0j ?_; simp (config := { maxSteps := 2000000 }) (disch := first | omega | rfl) only [sB, dAlloc, Nat.reduceEqDiff, Nat.reduceAdd, one, zr37, st37, e10]) | (refine EvC.condT ?_ ?_; simp (config := { maxSteps := 2000000 }) (disch := first | omega | rfl) only [sB, Nat.reduceEqDiff]; refine z02 ?_) | (refine EvC.condF ?_ ?_; simp (config := { maxSteps := 2000000 }) (disch := first | omega | rfl) only [sB, Nat.reduceEqDiff]; refine z02 ?_))
          refine ⟨_, by omega, _, _, j + 1, σ3, C ++ [c8], vC8, snaps ++ [σ], D ++ [(acc, a, c)], vD2, _, rfl, rfl, by omega, (by simp only [sG, reduceCtorEq, t0] <;> rfl), (by simp only [sG, Nat.reduceEqDiff, t1] <;> rfl), (by simp only [sG, Nat.reduceEqDiff, t2] <;> rfl), (by simp only [sG, Nat.reduceEqDiff, t3] <;> rfl), (by simp only [sG, Nat.reduceEqDiff, t10] <;> rfl), (by simp only [sG, Nat.reduceEqDiff, t12] <;> rfl), (by simp only [sG, Nat.reduceEqDiff, t13] <;> rfl), (by simp only [sG, Nat.reduceEqDiff] <;> rfl), ?_, hs10, hC10, hxH10⟩
          rw [hwb, ← Nat.add_assoc]
          exact { hP4 with ft := Nat.le_succ_of_le hP4.ft }
      · have db : decide ((j : Int) < Bs.length) = false := decide_eq_false (by omega)
        repeat' (first | refine EvC.seq ?_ | refine EvC.scope ?_ | refine EvC.block ?_ | (refine EvC.skip ?_; try simp only [sA]) | (refine EvC.exit ?_) | (refine EvC.ret ?_; try simp only [z01, z00]) | (refine EvC.reg ?_; simp (config := { maxSteps := 2000000 }) (disch := first | omega | rfl) only [sB, Nat.reduceEqDiff, ln23, t1, t14, db, ewi]) | (refine EvC.condT ?_ ?_; simp (config := { maxSteps := 2000000 }) (disch := first | omega | rfl) only [sB, Nat.reduceEqDiff]; refine z02 ?_) | (refine EvC.condF ?_ ?_; simp (config := { maxSteps := 2000000 }) (disch := first | omega | rfl) only [sB, Nat.reduceEqDiff]; refine z02 ?_))
        have hwe : nd.ndL ((Bs.map (·.2)).take (j + 1)) = nd.ndL ((Bs.map (·.2)).take j) := by
          rw [List.take_of_length_le (by simp; omega), List.take_of_length_le (by simp; omega)]
        refine ⟨_, by omega, _, _, j + 1, σ2, C ++ [c8], vC8, snaps ++ [σ], D ++ [(acc, a, c)], vD2, _, rfl, rfl, by omega, (by simp only [sG, reduceCtorEq, t0] <;> rfl), (by simp only [sG, Nat.reduceEqDiff, t1] <;> rfl), (by simp only [sG, Nat.reduceEqDiff, t2] <;> rfl), (by simp only [sG, Nat.reduceEqDiff, t3] <;> rfl), (by simp only [sG, Nat.reduceEqDiff, t10] <;> rfl), (by simp only [sG, Nat.reduceEqDiff, t12] <;> rfl), (by simp only [sG, Nat.reduceEqDiff, t13] <;> rfl), (by simp only [sG, Nat.reduceEqDiff] <;> rfl), ?_, hs8, hC8, hxH8⟩
        rw [hwe]
        exact { hP3 with ft := Nat.le_succ_of_le hP3.ft }
  · obtain rfl : i = l.length := by omega
    have hCl := hP.cl
    have hDl := hP.dl
    have hSl := hP.sn
    have hml : σ.marks.length = l.length := by rw [hP.marks, List.length_map, hSl]
    obtain ⟨ac, cc, rfl, hc1, hc2, -⟩ := hC.cell
    obtain ⟨ad, cd, rfl, hd1, hd2, -⟩ := hC.told
    (repeat refine EvC.seq ?_); refine EvC.reg ?_; simp (config := { maxSteps := 2000000 }) (disch := first | omega | rfl) only [sB, Nat.reduceEqDiff, reduceCtorEq, ln22, t0, t14, decn hlt]
    (repeat refine EvC.seq ?_); refine EvC.condF (by simp (config := { maxSteps := 2000000 }) (disch := first | omega | rfl) only [sB, Nat.reduceEqDiff]) ?_; (try refine EvC.skip ?_); (try simp only [z03, z0n])
    refine EvC.exit ?_
    simp only [z2n, z1u, Nat.beq_refl, if_true, if_false, Nat.reduceBEq, Nat.reduceEqDiff, reduceIte, z03]
    (repeat refine EvC.seq ?_); refine EvC.reg ?_; simp (config := { maxSteps := 2000000 }) (disch := first | omega | rfl) only [sB, Nat.reduceEqDiff, reduceCtorEq, ln22, t0]
    (repeat refine EvC.seq ?_)
    refine EvC.join (fun st => ∃ tm bb, st = ⟨tm, [], H'⟩ ∧ tm.get 2 = some (.int .i64 forget) ∧ tm.get 3 = some (.int .i64 to) ∧ tm.get 10 = some (.pointer (some ⟨s, 0, none⟩)) ∧ tm.get 12 = some (.slice ac C.length cc) ∧ tm.get 13 = some (.slice ad D.length cd) ∧ tm.get 23 = some (.int .i64 (l.length : Nat)) ∧
        tm.get 126 = some (.bool bb) ∧ (bb = true ↔ 0 ≤ forget ∧ forget < l.length)) ?_ ?_
    · by_cases f1 : forget ≥ 0
      · have d1 : decide (forget ≥ 0) = true := decide_eq_true f1
        by_cases f2 : forget < (l.length : Int)
        · have d2 : decide (forget < (l.length : Int)) = true := decide_eq_true f2
          repeat' (first | refine EvC.seq ?_ | refine EvC.scope ?_ | refine EvC.block ?_ | (refine EvC.skip ?_) | (refine EvC.exit ?_) | (refine EvC.ret ?_; try simp only [z01, z00]) | (refine EvC.reg ?_; simp (config := { maxSteps := 2000000 }) (disch := first | omega | rfl) only [sB, Nat.reduceEqDiff, t2, d1, d2]))
          exact ⟨_, true, rfl, (by simp only [sG, Nat.reduceEqDiff, t2] <;> rfl), (by simp only [sG, Nat.reduceEqDiff, t3] <;> rfl), (by simp only [sG, Nat.reduceEqDiff, t10] <;> rfl), (by simp only [sG, Nat.reduceEqDiff, t12] <;> rfl), (by simp only [sG, Nat.reduceEqDiff, t13] <;> rfl), (by simp only [sG, Nat.reduceEqDiff] <;> rfl), (by simp only [sG, Nat.reduceEqDiff] <;> rfl), by simp; omega⟩
        · have d2 : decide (forget < (l.length : Int)) = false := decide_eq_false f2
          repeat' (first | refine EvC.seq ?_ | refine EvC.scope ?_ | refine EvC.block ?_ | (refine EvC.skip ?_) | (refine EvC.exit ?_) | (refine EvC.ret ?_; try simp only [z01, z00]) | (refine EvC.reg ?_; simp (config := { maxSteps := 2000000 }) (disch := first | omega | rfl) only [sB, Nat.reduceEqDiff, t2, d1, d2]))
          exact ⟨_, false, rfl, (by simp only [sG, Nat.reduceEqDiff, t2] <;> rfl), (by simp only [sG, Nat.reduceEqDiff, t3] <;> rfl), (by simp only [sG, Nat.reduceEqDiff, t10] <;> rfl), (by simp only [sG, Nat.reduceEqDiff, t12] <;> rfl), (by simp only [sG, Nat.reduceEqDiff, t13] <;> rfl), (by simp only [sG, Nat.reduceEqDiff] <;> rfl), (by simp only [sG, Nat.reduceEqDiff] <;> rfl), by simp; omega⟩
      · have d1 : decide (forget ≥ 0) = false := decide_eq_false f1
        repeat' (first | refine EvC.seq ?_ | refine EvC.scope ?_ | refine EvC.block ?_ | (refine EvC.skip ?_) | (refine EvC.exit ?_) | (refine EvC.ret ?_; try simp only [z01, z00]) | (refine EvC.reg ?_; simp (config := { maxSteps := 2000000 }) (disch := first | omega | rfl) only [sB, Nat.reduceEqDiff, t2, d1, Bool.false_eq_true]))
        exact ⟨_, false, rfl, (by simp only [sG, Nat.reduceEqDiff, t2] <;> rfl), (by simp only [sG, Nat.reduceEqDiff, t3] <;> rfl), (by simp only [sG, Nat.reduceEqDiff, t10] <;> rfl), (by simp only [sG, Nat.reduceEqDiff, t12] <;> rfl), (by simp only [sG, Nat.reduceEqDiff, t13] <;> rfl), (by simp only [sG, Nat.reduceEqDiff] <;> rfl), (by simp only [sG, Nat.reduceEqDiff] <;> rfl), by simp; omega⟩
    clear t0 t1 t2 t3 t10 t12 t13 t14
    rintro st ⟨tm, bb, rfl, t2, t3, t10, t12, t13, t23, t126, hbb⟩
    simp only [z03]
    (repeat refine EvC.seq ?_)
    refine EvC.join (fun st => ∃ tm H2 m, st = ⟨tm, [], H2⟩ ∧ m ≤ l.length ∧ tm.get 3 = some (.int .i64 to) ∧ tm.get 10 = some (.pointer (some ⟨s, 0, none⟩)) ∧ tm.get 12 = some (.slice ac C.length cc) ∧ tm.get 13 = some (.slice ad D.length cd) ∧ tm.get 23 = some (.int .i64 (m : Nat)) ∧
        St H2 B s { σ with marks := σ.marks.take m } ∧ Cl H2 s B C (.slice ac C.length cc) D (.slice ad D.length cd) S ∧ HX H H2) ?_ ?_
    · cases bb with
      | true =>
        obtain ⟨f1, f2⟩ := hbb.1 rfl
        (repeat refine EvC.seq ?_); refine EvC.condT (by simp (config := { maxSteps := 2000000 }) (disch := first | omega | rfl) only [sA, t126]) ?_; (try refine EvC.skip ?_); (try simp only [z03, z0n])
        repeat' (first | refine EvC.seq ?_ | refine EvC.scope ?_ | refine EvC.block ?_ | (refine EvC.skip ?_) | (refine EvC.exit ?_) | (refine EvC.ret ?_; try simp only [z01, z00]) | (refine EvC.reg ?_; simp (config := { maxSteps := 2000000 }) (disch := first | omega | rfl) only [sB, Nat.reduceEqDiff, cl12, t2, t10]))
        refine (zgp (v := forget) hs' wH).mono ?_
        rintro v H2 ⟨rfl, hs2, hx2⟩
        have hin : 0 ≤ forget ∧ forget < (σ.marks.length : Int) := by omega
        rw [if_pos hin] at hs2
        simp only [if_pos hin]
        obtain ⟨m, em⟩ := Int.eq_ofNat_of_zero_le f1
        rw [em, Int.toNat_natCast] at hs2
        rw [em] at t2
        repeat' (first | refine EvC.seq ?_ | refine EvC.scope ?_ | refine EvC.block ?_ | (refine EvC.skip ?_; try simp only [z03]) | (refine EvC.exit ?_) | (refine EvC.ret ?_; try simp only [z01, z00]) | (refine EvC.reg ?_; simp (config := { maxSteps := 2000000 }) (disch := first | omega | rfl) only [sB, Nat.reduceEqDiff, t2]) | (refine z0j ?_; simp (config := { maxSteps := 2000000 }) (disch := first | omega | rfl) only [sA, z1p rfl]) | (refine EvC.condT ?_ ?_; simp (config := { maxSteps := 2000000 }) (disch := first | omega | rfl) only [sB, Nat.reduceEqDiff]; refine z02 ?_) | (refine EvC.condF ?_ ?_; simp (config := { maxSteps := 2000000 }) (disch := first | omega | rfl) only [sB, Nat.reduceEqDiff]; refine z02 ?_))
        exact ⟨_, _, m, rfl, by omega, (by simp only [sG, Nat.reduceEqDiff, t3] <;> rfl), (by simp only [sG, Nat.reduceEqDiff, t10] <;> rfl), (by simp only [sG, Nat.reduceEqDiff, t12] <;> rfl), (by simp only [sG, Nat.reduceEqDiff, t13] <;> rfl), (by simp only [sG, Nat.reduceEqDiff] <;> rfl), hs2, hC.sx wH hx2, hs'.hx hx' hB hx2⟩
      | false =>
        (repeat refine EvC.seq ?_); refine EvC.condF (by simp (config := { maxSteps := 2000000 }) (disch := first | omega | rfl) only [sA, t126]) ?_; (try refine EvC.skip ?_); (try simp only [z03, z0n])
        refine ⟨_, _, l.length, rfl, Nat.le_refl _, (by simp only [t3] <;> rfl), (by simp only [t10] <;> rfl), (by simp only [t12] <;> rfl), (by simp only [t13] <;> rfl), (by simp only [t23] <;> rfl), ?_, hC, hx'⟩
        rw [List.take_of_length_le (by omega)]; exact hs'
    clear t2 t3 t10 t12 t13 t23 t126
    rintro st ⟨tm, H2, m, rfl, hm, t3, t10, t12, t13, t23, hs2, hC2, hx2⟩
    simp only [z03]
    have w2 := hx2.wf
    have hmkl : (σ.marks.take m).length = m := by rw [List.length_take]; omega
    by_cases hto : 0 ≤ to ∧ to < (m : Int)
    · obtain ⟨k, rfl⟩ := Int.eq_ofNat_of_zero_le hto.1
      have hkm : k < m := by omega
      have d1 : decide (((k : Nat) : Int) < 0) = false := decide_eq_false (by omega)
      have d2 : decide (((k : Nat) : Int) ≥ (m : Int)) = false := decide_eq_false (by omega)
      have hkS : k < snaps.length := by omega
      have hkD : k < D.length := by omega
      obtain ⟨wρ, fewρ, varsρ, okρ⟩ := hP.old k snaps[k] (List.getElem?_eq_getElem hkS)
      have hbk := hP.back snaps[k] (List.getElem_mem hkS)
      obtain ⟨hkC, htd⟩ := hP.told k snaps[k] D[k] (List.getElem?_eq_getElem hkS) (List.getElem?_eq_getElem hkD)
      have hmkk : ∀ (h : k < (σ.marks.take m).length), (σ.marks.take m)[k] = lens snaps[k] := fun h => by
        rw [List.getElem_take]
        simp only [hP.marks, List.getElem_map]
      generalize snaps[k] = ρ at *
      have hbF : Back ρ { σ with marks := σ.marks.take m } := hbk.marks _
      have hse := z1i { σ with marks := σ.marks.take m } (σ.trail.drop ρ.trail.length)
      have hmt : ρ.trail.length ≤ σ.trail.length := hbF.tr.length_le
      have hmc : ρ.cells.length ≤ σ.cells.length := by have := hbF.up.cells.length_le; rw [hse.2.2.2.2.2.2.1] at this; exact this
      have hmv : ρ.vars.length ≤ σ.vars.length := by have := hbF.up.vars.length_le; rw [hse.1] at this; exact this
      repeat' (first | refine EvC.seq ?_ | refine EvC.scope ?_ | refine EvC.block ?_ | (refine EvC.skip ?_; try simp only [z03]) | (refine EvC.exit ?_) | (refine EvC.ret ?_; try simp only [z01, z00]) | (refine EvC.reg ?_; simp (config := { maxSteps := 2000000 }) (disch := first | omega | rfl) only [sB, Nat.reduceEqDiff, cl13, t3, t10, t23, d1, d2, Bool.false_eq_true]) | (refine EvC.condT ?_ ?_; simp (config := { maxSteps := 2000000 }) (disch := first | omega | rfl) only [sB, Nat.reduceEqDiff]; refine z02 ?_) | (refine EvC.condF ?_ ?_; simp (config := { maxSteps := 2000000 }) (disch := first | omega | rfl) only [sB, Nat.reduceEqDiff]; refine z02 ?_))
      refine (zal (n := k) (mt := ρ.trail.length) (mc := ρ.cells.length) (mv := ρ.vars.length) hs2 w2 (by rw [hmkl]; exact hkm) (hmkk _) hmt hmc hmv hP.wf.lo hP.wf.lf (fun x hx => (hP.tr x hx).same rfl rfl)).mono ?_
      rintro v H3 ⟨rfl, hs3, hx3⟩
      have eτ := (zen (n := k) hbF).resolve_right (fun q => by rcases q with q | q; exact q wρ.lf; exact q wρ.lo)
      rw [eτ] at hs3
      have gτ : Grow ρ { ρ with consts := σ.consts, funs := σ.funs, marks := (σ.marks.take m).take (k + 1) } := (Grow.undo hbF).other _ _
      have wτ : WF noU { ρ with consts := σ.consts, funs := σ.funs, marks := (σ.marks.take m).take (k + 1) } :=
        wρ.grow gτ wρ.lo wρ.lf (fun _ _ q => q) (fun n h1 h2 => absurd h2 (Nat.not_lt.2 h1)) (fun n h1 h2 => absurd h2 (Nat.not_lt.2 h1)) (fun n h1 h2 => absurd h2 (Nat.not_lt.2 h1)) hP.wf.con hP.wf.fn
      have v6 : ρ.vars.length ≤ most := by rw [varsρ]; unfold most; omega
      have hTρ := wρ.tok fewρ v6
      have hTτ := wτ.tok fewρ v6
      have htrρ : ∀ x ∈ ρ.trail, TrOk { ρ with consts := σ.consts, funs := σ.funs, marks := (σ.marks.take m).take (k + 1) } x := fun x hx => by
        obtain ⟨q1, n, kk, q2, q3, -, -⟩ := hP.tr x (hbk.tr.subset hx)
        obtain ⟨k', r1, r2, -⟩ := wρ.var n (by rw [varsρ, ← hP.vars]; exact q3)
        exact ⟨q1, n, k', q2, by show n < ρ.vars.length; rw [varsρ, ← hP.vars]; exact q3, r1, r2⟩
      have hC3 := hC2.sx w2 hx3
      have hxH3 := hs2.hx hx2 hB hx3
      have w3 := hx3.wf
      obtain ⟨ac', cc', eC, -, -, hcell⟩ := hC3.cell
      cases eC
      obtain ⟨ad', cd', eD, -, -, htold⟩ := hC3.told
      cases eD
      obtain ⟨bD, rfl, ldD⟩ := htold k hkD
      have hflD := hC3.fl D[k] (List.getElem_mem hkD)
      obtain ⟨cellsD, rlD⟩ := hflD.rep
      have hDlen : D[k].1.length = k := by rw [htd]; simp; omega
      generalize D[k] = dk at *
      obtain ⟨lk, ak, ck⟩ := dk
      simp only at htd rlD hDlen hflD
      repeat' (first | refine EvC.seq ?_ | refine EvC.scope ?_ | refine EvC.block ?_ | (refine EvC.skip ?_; try simp only [z03]) | (refine EvC.exit ?_) | (refine EvC.ret ?_; try simp only [z01, z00]) | (refine EvC.reg ?_; simp (config := { maxSteps := 2000000 }) (disch := first | omega | rfl) only [sA]) | (refine z0j ?_; simp (config := { maxSteps := 2000000 }) (disch := first | omega | rfl) only [sA, z1p rfl]) | (refine EvC.condT ?_ ?_; simp (config := { maxSteps := 2000000 }) (disch := first | omega | rfl) only [sB, Nat.reduceEqDiff]; refine z02 ?_) | (refine EvC.condF ?_ ?_; simp (config := { maxSteps := 2000000 }) (disch := first | omega | rfl) only [sB, Nat.reduceEqDiff]; refine z02 ?_))
      refine EvC.loop (fun q st => ∃ tm H4 j, st = ⟨tm, [], H4⟩ ∧ q = k - j ∧ j ≤ k ∧ tm.get 3 = some (.int .i64 (k : Nat)) ∧ tm.get 10 = some (.pointer (some ⟨s, 0, none⟩)) ∧ tm.get 12 = some (.slice ac C.length cc) ∧ tm.get 13 = some (.slice (some ⟨bD, 0, none⟩) D.length cd) ∧ tm.get 24 = some (.int .i64 (j : Nat)) ∧ HX H3 H4) ?_ k _ ?_
      rotate_left
      · exact ⟨_, _, 0, rfl, rfl, by omega, (by simp only [sG, Nat.reduceEqDiff, t3] <;> rfl), (by simp only [sG, Nat.reduceEqDiff, t10] <;> rfl), (by simp only [sG, Nat.reduceEqDiff, t12] <;> rfl), (by simp only [sG, Nat.reduceEqDiff, t13] <;> rfl), (by simp only [sB, Nat.reduceEqDiff] <;> rfl), HX.refl w3⟩
      clear t3 t10 t12 t13 t23
      rintro q st ⟨tm, H4, j, rfl, rfl, hj, t3, t10, t12, t13, t24, hx4⟩
      have w4 := hx4.wf
      have hs4 := hs3.keep w3 hx4
      have ldD4 := hx4.load w3 ldD
      by_cases hjk : j < k
      · have dj : decide ((j : Int) < (lk.length : Int)) = true := decide_eq_true (by omega)
        have hjC : j < C.length := by omega
        have hjl : j < lk.length := by omega
        obtain ⟨bc, rfl, ldc⟩ := hcell j hjC
        have ldc4 := hx4.load w3 ldc
        have ewj : IntKind.i64.wrap ((j : Int) + 1) = ((j + 1 : Nat) : Int) := by rw [z0c] <;> omega
        repeat' (first | refine EvC.seq ?_ | refine EvC.scope ?_ | refine EvC.block ?_ | (refine EvC.skip ?_; try simp only [z03]) | (refine EvC.exit ?_) | (refine EvC.ret ?_; try simp only [z01, z00]) | (refine EvC.reg ?_; simp (config := { maxSteps := 2000000 }) (disch := first | omega | rfl) only [sB, Nat.reduceEqDiff, ln22, ia28, ld37, cl8, ia29, ld22, t3, t10, t12, t13, t24, ldD4, dj, ldc4]) | (refine EvC.condT ?_ ?_; simp (config := { maxSteps := 2000000 }) (disch := first | omega | rfl) only [sB, Nat.reduceEqDiff]; refine z02 ?_))
        refine (zgy hTτ wτ.lo hs4 w4).mono ?_
        rintro v H5 ⟨cs5, rfl, hrF5, hx5⟩
        have hr5 := hrF5.rep
        obtain ⟨a5, c5, rfl, -⟩ := hrF5
        obtain ⟨H6, e6, hx6, g6, n6, w6⟩ := z1x hx5.wf (.row zero6 32) (.row (six (termS { ρ with consts := σ.consts, funs := σ.funs, marks := (σ.marks.take m).take (k + 1) } C[j]).1 a5 c5) 32)
        obtain ⟨H7, e7, hx7, w7⟩ := z2r w6 10
        have q6 := row6 g6
        have q7 := row6 (hx7.get w6 g6)
        have hx37 := hx4.trans (hx5.trans (hx6.trans hx7))
        have hx36 := hx4.trans (hx5.trans hx6)
        have ldD7 := hx37.load w3 ldD
        have ldD6 := hx36.load w3 ldD
        obtain ⟨be, oe, ae, ce, eae, hlde, hre⟩ := rlD.el hjl
        have hlde7 := hx37.load w3 hlde
        have hlde6 := hx36.load w3 hlde
        cases eae
        have et : (termS { ρ with consts := σ.consts, funs := σ.funs, marks := (σ.marks.take m).take (k + 1) } C[j]).1 = lk[j] := by
          rw [zis hTρ gτ wρ.lo rfl (okρ j C[j] hjk (List.getElem?_eq_getElem hjC))]
          simp only [htd, List.getElem_map, List.getElem_take]
        repeat' (first | refine EvC.seq ?_ | refine EvC.scope ?_ | refine EvC.block ?_ | (refine EvC.skip ?_) | (refine EvC.exit ?_) | (refine EvC.ret ?_; try simp only [z01, z00]) | (refine EvC.drw (id := 44) [([(0, 0), (1, 0), (2, 0), (3, 0), (4, 0), (5, 0), (6, 0), (7, 0)], some 8), ([(9, 1)], none)] ?_ ?_; kernel_rfl; simp (config := { maxSteps := 2000000 }) (disch := first | omega | rfl) only [sD, sB, Nat.reduceEqDiff, Nat.reduceAdd, reduceCtorEq, ld32, ia22, ia29, ld22, cl14, t3, t13, t24, e7, q7, ldD7, hlde7, isAlloc, isRead, reduceCtorEq]) | (refine z0j ?_; simp (config := { maxSteps := 2000000 }) (disch := first | omega | rfl) only [sB, dAlloc, Nat.reduceEqDiff, Nat.reduceAdd, one, zr32, st32, e6]))
        refine (zeg (hr5.mono (hx6.trans hx7) hx5.wf) (hre.mono hx37 w3) w7).mono ?_
        rintro v H8 ⟨rfl, hx8⟩
        rw [zle et]
        repeat' (first | refine EvC.seq ?_ | refine EvC.scope ?_ | refine EvC.block ?_ | (refine EvC.skip ?_; try simp only [sA]) | (refine EvC.exit ?_) | (refine EvC.ret ?_; try simp only [z01, z00]) | (refine EvC.reg ?_; simp (config := { maxSteps := 2000000 }) (disch := first | omega | rfl) only [sB, Nat.reduceEqDiff, t24, ewj, Bool.not_true]) | (refine z7o ?_; simp (config := { maxSteps := 2000000 }) (disch := first | omega | rfl) only [sD, sB, Nat.reduceEqDiff, isAlloc, isRead]) | (refine EvC.condT ?_ ?_; simp (config := { maxSteps := 2000000 }) (disch := first | omega | rfl) only [sB, Nat.reduceEqDiff]; refine z02 ?_) | (refine EvC.condF ?_ ?_; simp (config := { maxSteps := 2000000 }) (disch := first | omega | rfl) only [sB, Nat.reduceEqDiff]; refine z02 ?_))
        exact ⟨_, by omega, _, _, j + 1, rfl, rfl, by omega, (by simp only [sG, Nat.reduceEqDiff, t3] <;> rfl), (by simp only [sG, Nat.reduceEqDiff, t10] <;> rfl), (by simp only [sG, Nat.reduceEqDiff, t12] <;> rfl), (by simp only [sG, Nat.reduceEqDiff, t13] <;> rfl), (by simp only [sG, Nat.reduceEqDiff] <;> rfl), hx37.trans hx8⟩
      · obtain rfl : j = k := by omega
        have dj : decide ((j : Int) < (lk.length : Int)) = false := decide_eq_false (by omega)
        have hml2 : ((σ.marks.take m).take (j + 1)).length = j + 1 := by rw [List.length_take, hmkl]; omega
        repeat' (first | refine EvC.seq ?_ | refine EvC.scope ?_ | refine EvC.block ?_ | (refine EvC.skip ?_) | (refine EvC.exit ?_; try simp only [sB]) | (refine EvC.ret ?_; try simp only [z01, z00]) | (refine EvC.reg ?_; simp (config := { maxSteps := 2000000 }) (disch := first | omega | rfl) only [sB, Nat.reduceEqDiff, ln22, cl13, ia29, ld22, t3, t10, t13, t24, ldD4, dj]) | (refine EvC.condT ?_ ?_; simp (config := { maxSteps := 2000000 }) (disch := first | omega | rfl) only [sB, Nat.reduceEqDiff]; refine z02 ?_) | (refine EvC.condF ?_ ?_; simp (config := { maxSteps := 2000000 }) (disch := first | omega | rfl) only [sB, Nat.reduceEqDiff]; refine z02 ?_))
        refine (zal (n := j) (mt := ρ.trail.length) (mc := ρ.cells.length) (mv := ρ.vars.length) hs4 w4 (by show j < ((σ.marks.take m).take (j + 1)).length; rw [hml2]; omega)
          (by show ((σ.marks.take m).take (j + 1))[j]'_ = lens ρ; rw [List.getElem_take]; exact hmkk _) (Nat.le_refl _) (Nat.le_refl _) (Nat.le_refl _) wρ.lo wρ.lf htrρ).mono ?_
        rintro v H5 ⟨rfl, hs5, hx5⟩
        repeat' (first | refine EvC.seq ?_ | refine EvC.scope ?_ | refine EvC.block ?_ | (refine EvC.skip ?_) | (refine EvC.exit ?_) | (refine EvC.ret ?_; try simp only [z01, z00]) | (refine z0j ?_; simp (config := { maxSteps := 2000000 }) (disch := first | omega | rfl) only [sB, Nat.reduceEqDiff, cl15, z1a rfl, t10]))
        refine (zl4 hs5).mono ?_
        rintro v H6 ⟨rfl, rfl⟩
        have e6 : (undoS { ρ with consts := σ.consts, funs := σ.funs, marks := (σ.marks.take m).take (j + 1) } j ρ.trail.length ρ.cells.length ρ.vars.length).vars.length = 6 := by
          show (ρ.vars.take ρ.vars.length).length = 6
          rw [List.take_length]; exact varsρ
        rw [e6]
        have d9 : (((6 : Nat) : Int) == 6) = true := rfl
        repeat' (first | refine EvC.seq ?_ | refine EvC.scope ?_ | refine EvC.block ?_ | (refine EvC.skip ?_) | (refine EvC.exit ?_) | (refine EvC.ret ?_; try simp only [z01, z00]) | (refine z0j ?_; simp (config := { maxSteps := 2000000 }) (disch := first | omega | rfl) only [sB, Nat.reduceEqDiff, d9]))
        exact z06 rfl (by simp only [sG, Nat.reduceEqDiff] <;> rfl) rfl
    · have hbad : ¬ (0 ≤ to ∧ to < ((σ.marks.take m).length : Int)) := by rw [hmkl]; exact hto
      by_cases f1 : to < 0
      · have d1 : decide (to < 0) = true := decide_eq_true f1
        repeat' (first | refine EvC.seq ?_ | refine EvC.scope ?_ | refine EvC.block ?_ | (refine EvC.skip ?_) | (refine EvC.exit ?_) | (refine EvC.ret ?_; try simp only [z01, z00]) | (refine EvC.reg ?_; simp (config := { maxSteps := 2000000 }) (disch := first | omega | rfl) only [sB, Nat.reduceEqDiff, cl13, t3, t10, d1]) | (refine EvC.condT ?_ ?_; simp (config := { maxSteps := 2000000 }) (disch := first | omega | rfl) only [sB, Nat.reduceEqDiff]; refine z02 ?_))
        refine (zh8 hs2 w2 hbad).mono ?_
        rintro v H3 ⟨rfl, -⟩
        have d9 : ((132 : Int) == 132) = true := rfl
        repeat' (first | refine EvC.seq ?_ | refine EvC.scope ?_ | refine EvC.block ?_ | (refine EvC.skip ?_) | (refine EvC.exit ?_) | (refine EvC.ret ?_; try simp only [z01, z00]) | (refine z0j ?_; simp (config := { maxSteps := 2000000 }) (disch := first | omega | rfl) only [sB, Nat.reduceEqDiff, d9]))
        exact z06 rfl (by simp only [sG, Nat.reduceEqDiff] <;> rfl) rfl
      · have d1 : decide (to < 0) = false := decide_eq_false f1
        have d2 : decide (to ≥ (m : Int)) = true := decide_eq_true (by omega)
        repeat' (first | refine EvC.seq ?_ | refine EvC.scope ?_ | refine EvC.block ?_ | (refine EvC.skip ?_) | (refine EvC.exit ?_) | (refine EvC.ret ?_; try simp only [z01, z00]) | (refine EvC.reg ?_; simp (config := { maxSteps := 2000000 }) (disch := first | omega | rfl) only [sB, Nat.reduceEqDiff, cl13, t3, t10, t23, d1, d2, Bool.false_eq_true]) | (refine EvC.condT ?_ ?_; simp (config := { maxSteps := 2000000 }) (disch := first | omega | rfl) only [sB, Nat.reduceEqDiff]; refine z02 ?_))
        refine (zh8 hs2 w2 hbad).mono ?_
        rintro v H3 ⟨rfl, -⟩
        have d9 : ((132 : Int) == 132) = true := rfl
        repeat' (first | refine EvC.seq ?_ | refine EvC.scope ?_ | refine EvC.block ?_ | (refine EvC.skip ?_) | (refine EvC.exit ?_) | (refine EvC.ret ?_; try simp only [z01, z00]) | (refine z0j ?_; simp (config := { maxSteps := 2000000 }) (disch := first | omega | rfl) only [sB, Nat.reduceEqDiff, d9]))
        exact z06 rfl (by simp only [sG, Nat.reduceEqDiff] <;> rfl) rfl
end Go.Proofs.YthkogijbkachdaaDoor.hb
end

-- Law2
section
namespace Go.Hb
open Go Go.RowKit
section
variable {H : Type} {enc : TypeId × Value → H} {P : Program} {W : World} {sp : Nat → Bool} {fuel : Nat} {t e : TypeId} {cs : List Value} {d : DataW H} {ps : List MemPlace}
theorem zmo {k : IntKind} {n : Int} : ab P W (.int k n) = .int k n := rfl
theorem zhd {s : ByteArray} : ab P W (.string s) = .string s := rfl
theorem z5r {k : IntKind} (ht : P.underlying t = some (.int k)) (h : DataW.trod enc P W 0 sp true fuel t cs = some (d, ps)) : ∃ n, cs = [.int k n] ∧ (Lit.int k n).wf = true := by
  cases fuel with
  | zero => simp [DataW.trod] at h
  | succ m =>
    unfold DataW.trod at h
    rw [ht] at h
    split at h <;> simp_all
theorem z75 (ht : P.underlying t = some .string) (h : DataW.trod enc P W 0 sp true fuel t cs = some (d, ps)) : ∃ s : ByteArray, cs = [.string s] ∧ s.size ≤ maxLen := by
  cases fuel with
  | zero => simp [DataW.trod] at h
  | succ m =>
    unfold DataW.trod at h
    rw [ht] at h
    split at h <;> simp_all
theorem trod_slice (ht : P.underlying t = some (.slice e)) (h : DataW.trod enc P W 0 sp true fuel t cs = some (d, ps)) :
    cs = [.slice none 0 0] ∨ ∃ a len cap m, fuel = m + 1 ∧ cs = [.slice (some a) len cap] ∧ len ≤ cap ∧ cap ≤ maxLen ∧
      ∀ i, i < len → ∃ es d' ps', W.cells? 0 (a.add (i * P.cellsOf e)) (P.cellsOf e) = some es ∧ DataW.trod enc P W 0 sp true m e es = some (d', ps') := by
  cases fuel with
  | zero => simp [DataW.trod] at h
  | succ m =>
    unfold DataW.trod at h
    rw [ht] at h
    split at h <;> simp_all
    obtain ⟨⟨hl, hc⟩, h⟩ := h
    simp only [Option.bind_eq_some_iff, Option.map_eq_some_iff] at h
    obtain ⟨elems, he, _⟩ := h
    refine ⟨_, _, _, ⟨rfl, rfl, rfl⟩, hl, hc, fun i hi => ?_⟩
    have hlen := mapM_some_length he
    have := mapM_some_get he i i (by simp [hi])
    rw [List.getElem?_eq_getElem (by rw [hlen]; simpa using hi)] at this
    simp only [Option.bind_eq_some_iff] at this
    obtain ⟨es, h1, h2⟩ := this
    exact ⟨es, h1, _, _, h2⟩
theorem zlj (a : Addr) (i : Nat) : (a.add i).block = a.block := by unfold Addr.add; split <;> rfl
theorem z4s {a : Addr} {s i : Nat} {es : List Value} (hs : 0 < s) (h : W.cells? 0 (a.add (i * s)) s = some es) (hsp : a.spot = none) : (heapW P W).load ⟨a.block, a.off + i * s, none⟩ s = some (es.map (ab P W)) ∧ es.length = s ∧ a.block < W.heap.size := by
  obtain ⟨_, hl, hc⟩ := World.cells?_some h
  obtain ⟨b, o, sp⟩ := a
  obtain rfl : sp = none := hsp
  have hb := World.cells?_block h hs
  rw [zlj] at hb
  refine ⟨zdx hs hl fun j v hj => ?_, hl, hb⟩
  have hjl : j < es.length := (List.getElem?_eq_some_iff.1 hj).1
  have := hc j (by omega)
  rw [add0, add0] at this
  rw [this]; exact hj
theorem z80 {a : Addr} {s : Nat} {es : List Value} (hs : 0 < s) (h : W.cells? 0 (a.add (0 * s)) s = some es) : a.spot = none := by
  obtain ⟨_, hl, hc⟩ := World.cells?_some h
  have e0 : ∀ a : Addr, a.add 0 = a := fun a => by unfold Addr.add; simp
  have := hc 0 hs
  rw [Nat.zero_mul, e0, e0, List.getElem?_eq_getElem (by omega)] at this
  unfold World.cell? at this
  split at this
  · split at this
    · cases this
    · rename_i hn; simpa using hn
  · cases this
end
section
variable {H : Type} {enc : TypeId × Value → H} {P : Program} {W : World} {sp : Nat → Bool}
structure TermTypes (P : Program) (tT tS tI tG tU : TypeId) : Prop where
  fields : ∃ fs : Array Field, P.underlying tT = some (.struct fs) ∧ (fs.toList.map fun f => (f.offset, f.type)) = [(0, tI), (1, tG), (2, tG), (3, tU), (4, tI), (5, tS)]
  slice : P.underlying tS = some (.slice tT)
  int : P.underlying tI = some (.int .i64)
  str : P.underlying tG = some .string
  u64 : P.underlying tU = some (.int .u64)
  cT : P.cellsOf tT = 6
  cS : P.cellsOf tS = 1
  cI : P.cellsOf tI = 1
  cG : P.cellsOf tG = 1
  cU : P.cellsOf tU = 1
theorem zdg {n : Int} (h : (Lit.int .i64 n).wf = true) : i64 n := by
  unfold i64
  unfold Lit.wf at h
  simp [IntKind.min, IntKind.max, IntKind.bits, IntKind.signed] at h
  exact h
theorem zk5 {n : Int} (h : (Lit.int .u64 n).wf = true) : u64 n := by
  unfold u64
  unfold Lit.wf at h
  simp [IntKind.min, IntKind.max, IntKind.bits, IntKind.signed] at h
  exact h
theorem z39 {cs : List Value} {o : Nat} {v : Value} (h : (cs.drop o).take 1 = [v]) : cs[o]? = some v := by
  have : ((cs.drop o).take 1)[0]? = some v := by rw [h]; rfl
  simpa [List.getElem?_take, List.getElem?_drop] using this
theorem zdh {cs : List Value} {a b c d e f : Value} (hl : cs.length = 6) (h0 : cs[0]? = some a) (h1 : cs[1]? = some b) (h2 : cs[2]? = some c) (h3 : cs[3]? = some d) (h4 : cs[4]? = some e) (h5 : cs[5]? = some f) : cs = [a, b, c, d, e, f] := by
  match cs, hl with
  | [_, _, _, _, _, _], _ => simp at h0 h1 h2 h3 h4 h5; simp [h0, h1, h2, h3, h4, h5]
end
end Go.Hb
end

-- Law3
section
namespace Go.Hb
open Go Go.RowKit
section
variable {H : Type} {enc : TypeId × Value → H} {P : Program} {W : World} {sp : Nat → Bool}
end
end Go.Hb
end

-- Law4
section
namespace Go.Proofs.YthkogijbkachdaaDoor.hb
open Go Go.RowKit Go.Hb
section
variable {H : Type} {enc : TypeId × Value → H} {P : Program} {W : World} {sp : Nat → Bool}
structure Wt (w : DataW H → Nat) : Prop where
  pos : ∀ d, 1 ≤ w d
  agg : ∀ ps, (ps.map w).sum + 1 ≤ w (.agg ps)
  slice : ∀ es rest, (es.map w).sum + 1 ≤ w (.slice es rest)
theorem z4t {fuel : Nat} {t : TypeId} {cs : List Value} {d : DataW H} {ps : List MemPlace} {fs : Array Field} (ht : P.underlying t = some (.struct fs)) (h : DataW.trod enc P W 0 sp true fuel t cs = some (d, ps)) :
    ∃ (m : Nat) (xs : List (DataW H × List MemPlace)), fuel = m + 1 ∧ cs.length = P.cellsOf t ∧ d = .agg (xs.map (·.1)) ∧ ∀ (i : Nat) (f : Field), fs[i]? = some f → ∃ x, xs[i]? = some x ∧ DataW.trod enc P W 0 sp true m f.type ((cs.drop f.offset).take (P.cellsOf f.type)) = some x := by
  cases fuel with
  | zero => simp [DataW.trod] at h
  | succ m =>
    unfold DataW.trod at h
    rw [ht] at h
    have h' : (if cs.length = P.cellsOf t then (fs.toList.mapM fun f => DataW.trod enc P W 0 sp true m f.type ((cs.drop f.offset).take (P.cellsOf f.type))).map fun xs => (DataW.agg (xs.map (·.1)), xs.flatMap (·.2)) else none) = some (d, ps) := by
      split at h <;> first | exact h | simp_all
    split at h'
    · rename_i hl
      rw [Option.map_eq_some_iff] at h'
      obtain ⟨xs, hx, he⟩ := h'
      cases he
      refine ⟨m, xs, rfl, hl, rfl, fun i f hf => ?_⟩
      have hlen := mapM_some_length hx
      have := mapM_some_get hx i f (by simpa using hf)
      have hi := (Array.getElem?_eq_some_iff.1 hf).1
      have hix : i < xs.length := by rw [hlen]; simpa using hi
      rw [List.getElem?_eq_getElem hix] at this
      exact ⟨xs[i], List.getElem?_eq_getElem hix, this⟩
    · cases h'
theorem z3k {fuel : Nat} {t e : TypeId} {cs : List Value} {d : DataW H} {ps : List MemPlace} (ht : P.underlying t = some (.slice e)) (h : DataW.trod enc P W 0 sp true fuel t cs = some (d, ps)) :
    cs = [.slice none 0 0] ∨ ∃ (a : Addr) (cap m : Nat) (elems : List (DataW H × List MemPlace)) (rest : List (DataW H)), fuel = m + 1 ∧ cs = [.slice (some a) elems.length cap] ∧ elems.length ≤ cap ∧ cap ≤ maxLen ∧ d = .slice (elems.map (·.1)) rest ∧
      ∀ i x, elems[i]? = some x → ∃ es, W.cells? 0 (a.add (i * P.cellsOf e)) (P.cellsOf e) = some es ∧ DataW.trod enc P W 0 sp true m e es = some x := by
  rcases DataW.trod_slice ht h with ⟨h1, -⟩ | ⟨a, len, cap, elems, rest, n, rfl, rfl, hx, -, hl, hm, rfl, hel, -⟩
  · exact .inl h1
  · cases hx
    refine .inr ⟨a, cap, n, elems, _, rfl, rfl, hl, hm, rfl, fun i x hx => ?_⟩
    have hi := (List.getElem?_eq_some_iff.1 hx).1
    have := hel i hi
    rw [hx, Option.bind_eq_some_iff] at this
    exact this
theorem z54 : nd.ndL [] = 0 := by rw [nd.ndL]
theorem zit {t : Tm} {l : List Tm} : nd.ndL (t :: l) = nd t + nd.ndL l := by rw [nd.ndL]
theorem zhe {w : DataW H → Nat} : ∀ (es : List (DataW H × List MemPlace)) (f : Nat → Tm), (∀ i x, es[i]? = some x → 7 * nd (f i) ≤ w x.1) → 7 * nd.ndL ((List.range es.length).map f) ≤ ((es.map (·.1)).map w).sum
  | [], f, _ => by simp [z54]
  | x :: es, f, h => by
    have h0 := h 0 x rfl
    have ih := zhe (w := w) es (fun i => f (i + 1)) fun i y hy => h (i + 1) y hy
    rw [List.length_cons, List.range_succ_eq_map, List.map_cons, List.map_map, zit, List.map_cons, List.map_cons, List.sum_cons]
    have e : (f ∘ Nat.succ) = fun i => f (i + 1) := rfl
    rw [e]; omega
theorem ziu {b : Nat} {B : Blk} (h : (heapW P W).get b = some B) : ∃ cs e, B = .ro cs e := by
  rw [z4f] at h
  split at h
  · unfold blkW at h
    split at h
    · cases h; exact ⟨_, _, rfl⟩
    · cases h
  · cases h
theorem zlk {b o n : Nat} {cs : List Value} (h : (heapW P W).load ⟨b, o, none⟩ n = some cs) : ∃ cs e, (heapW P W).get b = some (.ro cs e) := by
  cases hg : (heapW P W).get b with
  | none => unfold Heap.load Heap.cells at h; simp [hg] at h
  | some B => obtain ⟨cs, e, rfl⟩ := ziu hg; exact ⟨cs, e, rfl⟩
theorem zhf {tT tS tI tG tU : TypeId} (T : TermTypes P tT tS tI tG tU) {w : DataW H → Nat} {a : Addr} {m cap : Nat} {elems : List (DataW H × List MemPlace)}
    (hnc : elems.length ≤ cap) (hcm : cap ≤ maxLen)
    (ih : ∀ (cs : List Value) (d : DataW H) (ps : List MemPlace), DataW.trod enc P W 0 sp true m tT cs = some (d, ps) → ∃ t, RepT (heapW P W) t (cs.map (ab P W)) ∧ 7 * nd t ≤ w d)
    (hel : ∀ i x, elems[i]? = some x → ∃ es, W.cells? 0 (a.add (i * P.cellsOf tT)) (P.cellsOf tT) = some es ∧ DataW.trod enc P W 0 sp true m tT es = some x) :
    ∃ l a' cells, ab P W (.slice (some a) elems.length cap) = .slice (some a') l.length cap ∧ RepL (heapW P W) l (some a') cap cells ∧ 7 * nd.ndL l ≤ ((elems.map (·.1)).map w).sum ∧ (0 < l.length → a'.spot = none ∧ ∃ cs e, (heapW P W).get a'.block = some (.ro cs e)) := by
  rw [T.cT] at hel
  have hsp : 0 < elems.length → a.spot = none := fun hn => by
    obtain ⟨es, he, _⟩ := hel 0 elems[0] (List.getElem?_eq_getElem hn)
    exact z80 (by omega) he
  have key : ∀ i, ∃ t cells, (∀ x, elems[i]? = some x → (heapW P W).load ⟨a.block, a.off + i * 6, none⟩ 6 = some cells ∧ RepT (heapW P W) t cells ∧ 7 * nd t ≤ w x.1) := fun i => by
    by_cases hi : i < elems.length
    · obtain ⟨es, he, ht⟩ := hel i elems[i] (List.getElem?_eq_getElem hi)
      obtain ⟨t, hr, hwt⟩ := ih es elems[i].1 elems[i].2 ht
      exact ⟨t, _, fun x hx => by rw [List.getElem?_eq_getElem hi] at hx; cases hx; exact ⟨(z4s (by omega) he (hsp (by omega))).1, hr, hwt⟩⟩
    · exact ⟨.mk 0 ByteArray.empty ByteArray.empty 0 0 [], [], fun x hx => absurd (List.getElem?_eq_some_iff.1 hx).1 hi⟩
  obtain ⟨T', hT'⟩ := Classical.axiomOfChoice key
  obtain ⟨C, hC⟩ := Classical.axiomOfChoice hT'
  have hlen : ((List.range elems.length).map T').length = elems.length := by simp
  have hsum := zhe (w := w) elems T' fun i x hx => (hC i x hx).2.2
  by_cases hn : 0 < elems.length
  · have hbl : a.block < W.heap.size := by
      obtain ⟨es, he, _⟩ := hel 0 elems[0] (List.getElem?_eq_getElem hn)
      exact (z4s (P := P) (by omega) he (hsp hn)).2.2
    have hab : ab P W (.slice (some a) elems.length cap) = .slice (some a) ((List.range elems.length).map T').length cap := by
      unfold ab
      rw [hlen]
      simp only
      rw [if_pos ⟨hnc, hcm⟩, if_pos ⟨hsp hn, hbl⟩]
    refine ⟨(List.range elems.length).map T', a, C, hab, ⟨by rw [hlen]; exact hnc, hcm, fun h => (by cases h), fun i ad hi ha => ?_, fun i t ht => ?_⟩, hsum, fun _ => ⟨hsp hn, zlk (hC 0 _ (List.getElem?_eq_getElem hn)).1⟩⟩
    · cases ha
      rw [hlen] at hi
      exact ⟨hsp hn, (hC i _ (List.getElem?_eq_getElem hi)).1⟩
    · rw [List.getElem?_map, Option.map_eq_some_iff] at ht
      obtain ⟨j, hj, rfl⟩ := ht
      have hi : i < elems.length := by have := (List.getElem?_eq_some_iff.1 hj).1; simpa using this
      rw [List.getElem?_range hi] at hj
      cases hj
      exact (hC i _ (List.getElem?_eq_getElem hi)).2.1
  · have hn0 : elems.length = 0 := by omega
    obtain ⟨a', hab⟩ : ∃ a', ab P W (.slice (some a) elems.length cap) = .slice (some a') 0 cap := by
      unfold ab
      simp only
      rw [if_pos ⟨hnc, hcm⟩, hn0]
      split
      · exact ⟨_, rfl⟩
      · exact ⟨_, rfl⟩
    exact ⟨[], a', fun _ => [], hab, ⟨Nat.zero_le _, hcm, fun h => (by cases h), fun i ad hi => by simp at hi, fun i t h => by simp at h⟩, by simp [z54], fun h => by simp at h⟩
theorem zmp {tT tS tI tG tU : TypeId} (T : TermTypes P tT tS tI tG tU) {w : DataW H → Nat} (hw : Wt w) : ∀ (fuel : Nat) (cs : List Value) (d : DataW H) (ps : List MemPlace), DataW.trod enc P W 0 sp true fuel tT cs = some (d, ps) → ∃ t, RepT (heapW P W) t (cs.map (ab P W)) ∧ 7 * nd t ≤ w d := by
  intro fuel
  induction fuel using Nat.strongRecOn with
  | _ fuel ih =>
  intro cs d ps h
  obtain ⟨fs, hf, hfs⟩ := T.fields
  obtain ⟨m, xs, rfl, hl, rfl, hall⟩ := z4t hf h
  rw [T.cT] at hl
  have fld : ∀ i o u, ((fs.toList.map fun f => (f.offset, f.type)))[i]? = some (o, u) → P.cellsOf u = 1 → ∃ x, xs[i]? = some x ∧ DataW.trod enc P W 0 sp true m u ((cs.drop o).take 1) = some x := fun i o u hi hu => by
    rw [List.getElem?_map, Option.map_eq_some_iff] at hi
    obtain ⟨f, hf1, hf2⟩ := hi
    obtain ⟨x, hx, hd⟩ := hall i f (by simpa using hf1)
    cases hf2
    rw [hu] at hd
    exact ⟨x, hx, hd⟩
  rw [hfs] at fld
  obtain ⟨d0, p0, t0⟩ := fld 0 0 tI rfl T.cI
  obtain ⟨d1, p1, t1⟩ := fld 1 1 tG rfl T.cG
  obtain ⟨d2, p2, t2⟩ := fld 2 2 tG rfl T.cG
  obtain ⟨d3, p3, t3⟩ := fld 3 3 tU rfl T.cU
  obtain ⟨d4, p4, t4⟩ := fld 4 4 tI rfl T.cI
  obtain ⟨d5, p5, t5⟩ := fld 5 5 tS rfl T.cS
  have hbulk : 6 + w d5.1 ≤ w (.agg (xs.map (·.1))) := by
    have h1 := hw.agg (xs.map (·.1))
    match xs, p0, p1, p2, p3, p4, p5, h1 with
    | x0 :: x1 :: x2 :: x3 :: x4 :: x5 :: r, p0, p1, p2, p3, p4, p5, h1 =>
      cases p5
      simp only [List.map_cons, List.sum_cons] at h1 ⊢
      have := hw.pos x0.1; have := hw.pos x1.1; have := hw.pos x2.1; have := hw.pos x3.1; have := hw.pos x4.1
      omega
  obtain ⟨k, h0, w0⟩ := z5r T.int t0
  obtain ⟨s, h1, w1⟩ := z75 T.str t1
  obtain ⟨u, h2, w2⟩ := z75 T.str t2
  obtain ⟨b, h3, w3⟩ := z5r T.u64 t3
  obtain ⟨v, h4, w4⟩ := z5r T.int t4
  have hp5 := hw.pos d5.1
  obtain ⟨d5, q5⟩ := d5
  rcases z3k T.slice t5 with h5 | ⟨a, c, m', elems, rest, rfl, h5, hnc, hcm, rfl, hel⟩
  · rw [zdh hl (z39 h0) (z39 h1) (z39 h2) (z39 h3) (z39 h4) (z39 h5)]
    refine ⟨.mk k s u b v [], .mk k s u b v [] none 0 (fun _ => []) (zdg w0) w1 w2 (zk5 w3) (zdg w4) (Nat.zero_le _) (Nat.le_refl _) (Nat.zero_le _) (fun _ => ⟨rfl, rfl⟩) (fun i ad hi => by simp at hi) (fun i t ht => by simp at ht), ?_⟩
    rw [z43, show (Tm.mk k s u b v []).args = [] from rfl, z54]
    try simp only at hbulk
    try simp only at hp5
    omega
  · rw [zdh hl (z39 h0) (z39 h1) (z39 h2) (z39 h3) (z39 h4) (z39 h5)]
    obtain ⟨l, a', C, hab, rl, hn, -⟩ := zhf T hnc hcm (ih m' (by omega)) hel
    simp only [List.map_cons, List.map_nil, zmo, zhd, hab]
    refine ⟨.mk k s u b v l, .mk k s u b v l (some a') c C (zdg w0) w1 w2 (zk5 w3) (zdg w4) (Nat.le_trans rl.len hcm) rl.len hcm (fun h => (by cases h)) rl.load rl.rep, ?_⟩
    rw [z43, show (Tm.mk k s u b v l).args = l from rfl]
    have := hw.slice (elems.map (·.1)) rest
    try simp only at hbulk
    try simp only at hp5
    omega
theorem zbr {tT tS tI tG tU : TypeId} (T : TermTypes P tT tS tI tG tU) {w : DataW H → Nat} (hw : Wt w) {v : Value} {fuel : Nat} {d : DataW H} {ps : List MemPlace} (h : DataW.trod enc P W 0 sp true fuel tS v.cells.toList = some (d, ps)) (hv : ∀ cs, v ≠ .agg cs) :
    ∃ l a c cells, abV P W v = .slice a l.length c ∧ RepL (heapW P W) l a c cells ∧ 7 * nd.ndL l ≤ w d ∧ ∀ b o, a = some ⟨b, o, none⟩ → 0 < l.length → ∃ cs e', (heapW P W).get b = some (.ro cs e') := by
  have hc : v.cells.toList = [v] := by
    unfold Value.cells
    split
    · rename_i cs; exact absurd rfl (hv cs)
    · rfl
  rw [hc] at h
  have hab : abV P W v = ab P W v := by
    unfold abV
    split
    · rename_i cs; exact absurd rfl (hv _)
    · rfl
  rw [hab]
  rcases z3k T.slice h with h5 | ⟨a, c, m', elems, rest, rfl, h5, hnc, hcm, rfl, hel⟩
  · cases h5
    exact ⟨[], none, 0, fun _ => [], rfl, ⟨Nat.le_refl _, Nat.zero_le _, fun _ => ⟨rfl, rfl⟩, fun i ad hi => by simp at hi, fun i t h => by simp at h⟩, by simp [z54], fun b o h => by cases h⟩
  · cases h5
    obtain ⟨l, a', C, hab, rl, hn, hro⟩ := zhf T hnc hcm (zmp T hw m') hel
    have := hw.slice (elems.map (·.1)) rest
    exact ⟨l, some a', c, C, hab, rl, by omega, fun b o e hl => by cases e; exact (hro hl).2⟩
end
end Go.Proofs.YthkogijbkachdaaDoor.hb
end

-- Law6
section
namespace Go.Proofs.YthkogijbkachdaaDoor.hb
open Go Go.RowKit Go.Hb
section
variable {H : Type} {enc : TypeId × Value → H} {P : Program} {W : World} {sp : Nat → Bool}
structure BindTypesW (P : Program) (tB tBS tT tI : TypeId) : Prop where
  fields : ∃ fs : Array Field, P.underlying tB = some (.struct fs) ∧ (fs.toList.map fun f => (f.offset, f.type)) = [(0, tI), (1, tT)]
  slice : P.underlying tBS = some (.slice tB)
  cB : P.cellsOf tB = 7
theorem z8w {tT tS tI tG tU tB tBS : TypeId} (T : TermTypes P tT tS tI tG tU) (Bt : BindTypesW P tB tBS tT tI) {w : DataW H → Nat} (hw : Wt w) {fuel : Nat} {cs : List Value} {d : DataW H} {ps : List MemPlace} (h : DataW.trod enc P W 0 sp true fuel tB cs = some (d, ps)) :
    ∃ (n : Int) (t : Tm) (a : Option Addr) (c : Nat), cs.map (ab P W) = seven n t a c ∧ RepT (heapW P W) t (six t a c) ∧ 7 * nd t ≤ w d := by
  obtain ⟨fs, hf, hfs⟩ := Bt.fields
  obtain ⟨m, xs, rfl, hl, rfl, hall⟩ := z4t hf h
  rw [Bt.cB] at hl
  have fld : ∀ i o u, ((fs.toList.map fun f => (f.offset, f.type)))[i]? = some (o, u) → ∃ x, xs[i]? = some x ∧ DataW.trod enc P W 0 sp true m u ((cs.drop o).take (P.cellsOf u)) = some x := fun i o u hi => by
    rw [List.getElem?_map, Option.map_eq_some_iff] at hi
    obtain ⟨f, hf1, hf2⟩ := hi
    obtain ⟨x, hx, hd⟩ := hall i f (by simpa using hf1)
    cases hf2
    exact ⟨x, hx, hd⟩
  rw [hfs] at fld
  obtain ⟨⟨d0, p0⟩, x0, t0⟩ := fld 0 0 tI rfl
  obtain ⟨⟨d1, p1⟩, x1, t1⟩ := fld 1 1 tT rfl
  rw [T.cI] at t0
  rw [T.cT] at t1
  obtain ⟨n, h0, -⟩ := z5r T.int t0
  obtain ⟨t, hr, hn⟩ := zmp T hw _ _ _ _ t1
  obtain ⟨a, c, cells, h6, -⟩ := hr.six
  have hb : w d1 ≤ w (.agg (xs.map (·.1))) := by
    have h1 := hw.agg (xs.map (·.1))
    match xs, x0, x1, h1 with
    | y0 :: y1 :: r, x0, x1, h1 =>
      cases x1
      simp only [List.map_cons, List.sum_cons] at h1
      simp only [List.map_cons]
      omega
  refine ⟨n, t, a, c, ?_, by rw [← h6]; exact hr, by omega⟩
  match cs, hl with
  | x :: r, hl =>
    have hr6 : r.length = 6 := by simpa using hl
    rw [List.drop_zero, List.take_succ_cons, List.take_zero] at h0
    cases h0
    rw [List.drop_succ_cons, List.drop_zero, List.take_of_length_le (by omega)] at h6
    rw [List.map_cons, h6]; rfl
theorem zeo {tT tS tI tG tU tB tBS : TypeId} (T : TermTypes P tT tS tI tG tU) (Bt : BindTypesW P tB tBS tT tI) {w : DataW H → Nat} (hw : Wt w) {v : Value} {fuel : Nat} {d : DataW H} {ps : List MemPlace} (h : DataW.trod enc P W 0 sp true fuel tBS v.cells.toList = some (d, ps)) (hv : ∀ cs, v ≠ .agg cs) :
    ∃ B a c, abV P W v = .slice a B.length c ∧ RepB7 (heapW P W) B a c ∧ 7 * nd.ndL (B.map (·.2)) ≤ w d := by
  have hc : v.cells.toList = [v] := by
    unfold Value.cells
    split
    · rename_i cs; exact absurd rfl (hv cs)
    · rfl
  have habv : abV P W v = ab P W v := by
    unfold abV
    split
    · rename_i cs; exact absurd rfl (hv _)
    · rfl
  rw [hc] at h
  rw [habv]
  rcases z3k Bt.slice h with e | ⟨a, c, m, elems, rest, rfl, e, hnc, hcm, rfl, hel⟩
  · cases e
    exact ⟨[], none, 0, rfl, ⟨Nat.le_refl _, Nat.zero_le _, fun i hi => by simp at hi⟩, by simp [z54]⟩
  · cases e
    rw [Bt.cB] at hel
    have hsp : 0 < elems.length → a.spot = none := fun hn => by
      obtain ⟨es, he, _⟩ := hel 0 elems[0] (List.getElem?_eq_getElem hn)
      exact z80 (by omega) he
    have key : ∀ i, ∃ p : Int × Tm, ∀ x, elems[i]? = some x → 7 * nd p.2 ≤ w x.1 ∧ ∃ a' c', (heapW P W).load ⟨a.block, a.off + i * 7, none⟩ 7 = some (seven p.1 p.2 a' c') ∧ RepT (heapW P W) p.2 (six p.2 a' c') := fun i => by
      by_cases hi : i < elems.length
      · obtain ⟨es, he, ht⟩ := hel i elems[i] (List.getElem?_eq_getElem hi)
        obtain ⟨k, t, a', c', e1, e2, e3⟩ := z8w T Bt hw (d := elems[i].1) (ps := elems[i].2) ht
        refine ⟨(k, t), fun x hx => ?_⟩
        rw [List.getElem?_eq_getElem hi] at hx
        cases hx
        refine ⟨e3, a', c', ?_, e2⟩
        rw [← e1]; exact (z4s (by omega) he (hsp (by omega))).1
      · exact ⟨(0, .mk 0 ByteArray.empty ByteArray.empty 0 0 []), fun x hx => absurd (List.getElem?_eq_some_iff.1 hx).1 hi⟩
    obtain ⟨B, hB⟩ := Classical.axiomOfChoice key
    have hlen : ((List.range elems.length).map B).length = elems.length := by simp
    have hsum := zhe (w := w) elems (fun i => (B i).2) fun i x hx => (hB i x hx).1
    have hmap : ((List.range elems.length).map B).map (·.2) = (List.range elems.length).map fun i => (B i).2 := by rw [List.map_map]; rfl
    have hws := hw.slice (elems.map (·.1)) rest
    by_cases hn : 0 < elems.length
    · have hbl : a.block < W.heap.size := by
        obtain ⟨es, he, _⟩ := hel 0 elems[0] (List.getElem?_eq_getElem hn)
        exact (z4s (P := P) (by omega) he (hsp hn)).2.2
      have hab : ab P W (.slice (some a) elems.length c) = .slice (some a) ((List.range elems.length).map B).length c := by
        unfold ab
        rw [hlen]
        simp only
        rw [if_pos ⟨hnc, hcm⟩, if_pos ⟨hsp hn, hbl⟩]
      refine ⟨(List.range elems.length).map B, some a, c, hab, ⟨by rw [hlen]; exact hnc, hcm, fun i hi => ?_⟩, by rw [hmap]; omega⟩
      rw [hlen] at hi
      obtain ⟨-, a', c', h1, h2⟩ := hB i elems[i] (List.getElem?_eq_getElem hi)
      have e : ((List.range elems.length).map B)[i]'(by rw [hlen]; exact hi) = B i := by simp
      rw [e]
      have hs := hsp hn
      obtain ⟨ab', ao, as'⟩ := a
      simp only at hs
      subst hs
      exact ⟨ab', ao, a', c', rfl, h1, h2⟩
    · have hn0 : elems.length = 0 := by omega
      obtain ⟨a', hab⟩ : ∃ a', ab P W (.slice (some a) elems.length c) = .slice (some a') 0 c := by
        unfold ab
        rw [hn0]
        simp only
        rw [if_pos ⟨Nat.zero_le _, hcm⟩]
        split
        · exact ⟨_, rfl⟩
        · exact ⟨_, rfl⟩
      exact ⟨[], some a', c, hab, ⟨Nat.zero_le _, hcm, fun i hi => by simp at hi⟩, by simp [z54]⟩
end
end Go.Proofs.YthkogijbkachdaaDoor.hb
end
