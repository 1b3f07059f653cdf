import Derived.Test.YtlllbkjiadcloaaDoorM3
import Derived.Test.YtlllbkjiadcloaaDoorM5
/- Lemmas on the program's own code, towards the laws of this folder, part 6. Conditions: as each lemma says. -/
-- So5
section
namespace Go.Hb
open Go Go.RowKit
theorem zji {i j : Nat} (h : i + j < 2097153) : IntKind.i64.wrap ((i : Int) + (j : Int)) = ((i + j : Nat) : Int) := by rw [z06 (by omega) (by omega)]; omega
theorem zjj {i j : Nat} (h : i + j < 2097153) : IntKind.u64.wrap ((i + j : Nat) : Int) = ((i + j : Nat) : Int) := wrap_u64 (by omega) (by omega)
theorem zjk {i j : Nat} (h : i + j < 2097153) : IntKind.i64.wrap (((i + j) / 2 : Nat) : Int) = (((i + j) / 2 : Nat) : Int) := z06 (by omega) (by omega)
theorem z5f {i : Nat} (h : i < 2097153) : IntKind.i64.wrap ((i : Int) + 1) = ((i + 1 : Nat) : Int) := by rw [z06 (by omega) (by omega)]; omega
theorem zhe {i j : Nat} (h : j ≤ i) (hi : i < 2097153) : IntKind.i64.wrap ((i : Int) - (j : Int)) = ((i - j : Nat) : Int) := by rw [z06 (by omega) (by omega)]; omega
theorem zb4 {i : Nat} (h : 1 ≤ i) (hi : i < 2097153) : IntKind.i64.wrap ((i : Int) - 1) = ((i - 1 : Nat) : Int) := by rw [z06 (by omega) (by omega)]; omega
end Go.Hb
namespace Go.Proofs.YtlllbkjiadcloaaDoor.hb
open Go Go.RowKit Go.Hb
variable {ok : Ok}
set_option maxRecDepth 10000
attribute [local irreducible] LX LG EL STG SOP SGO SGD SAL SRD SEF SEG SLK SCK ES
theorem Cmps.at {g : FuncId} {H H' : Heap} {b : Nat} {G : El → Prop} {cmp : El → El → Int} (C : Cmps g H b G cmp) (h : HK (· = b) H H') : Cmps g H' b G cmp := ⟨C.call, C.ord, fun x y H2 hx hy h2 => C.run x y H2 hx hy (h.trans h2)⟩
set_option maxHeartbeats 16000000 in
theorem z79 {b n c : Nat} {g : FuncId} {G : El → Prop} {cmp : El → El → Int} (hn : n ≤ most) : ∀ (N : Nat) {a m e : Nat} {D : Nat → El} {H : Heap}, e - a ≤ N → Cmps g H b G cmp → RowE H 26 b n D → (∀ k, k < n → G (D k)) → a < m → m < e → e ≤ n → InO cmp a m D → InO cmp m e D → H.wf →
    EvF Tryd.prog okT 112 [.slice (some ⟨b, 0, none⟩) n c, .int .i64 (a : Nat), .int .i64 (m : Nat), .int .i64 (e : Nat), cvF g] H fun _ H' =>
      ∃ D', RowE H' 26 b n D' ∧ Mv G cmp a e D D' ∧ InO cmp a e D' ∧ HK (· = b) H H' := by
  have hms : most ≤ 1048576 := by simp [most]
  intro N
  induction N with
  | zero => intro a m e D H h; omega
  | succ N ih =>
  intro a m e D H hN C hr hG h1 h2 h3 hl hrr hw
  have hg := C.call
  have hGe : ∀ k, k < e → G (D k) := fun k hk => hG k (by omega)
  have sx1 := zhe (i := m) (j := a) (by omega) (by omega)
  have sx2 := zhe (i := e) (j := m) (by omega) (by omega)
  refine EvF.enter rfl Tryd.func112 (by decide) rfl ?_
  by_cases c1 : m = a + 1
  ·
    subst c1
    have d1 : (((a + 1 - a : Nat) : Int) == 1) = true := z19 (by omega)
    (repeat refine EvC.seq ?_); refine EvC.reg ?_; simp (config := { maxSteps := 2000000 }) (disch := first | omega | rfl) only [sB, initTm, Nat.reduceEqDiff, Nat.reduceAdd, reduceCtorEq, sx1, d1]
    (repeat refine EvC.seq ?_); refine EvC.condT (by simp (config := { maxSteps := 2000000 }) (disch := first | omega | rfl) only [sB, Nat.reduceEqDiff, reduceCtorEq]) ?_; (try refine EvC.skip ?_); (try simp only [z02, z0a])
    (repeat refine EvC.seq ?_); refine EvC.reg ?_; simp (config := { maxSteps := 2000000 }) (disch := first | omega | rfl) only [sB, Nat.reduceEqDiff, reduceCtorEq]
    (repeat refine EvC.seq ?_); refine EvC.reg ?_; simp (config := { maxSteps := 2000000 }) (disch := first | omega | rfl) only [sB, Nat.reduceEqDiff, reduceCtorEq]
    refine EvC.cut (fun st => ∃ tm H' i, st = ⟨tm, [], H'⟩ ∧ a + 1 ≤ i ∧ i ≤ e ∧ (∀ k, a + 1 ≤ k → k < i → cmp (D k) (D a) < 0) ∧ (∀ k, i ≤ k → k < e → ¬ cmp (D k) (D a) < 0) ∧ tm.get 0 = some (.slice (some ⟨b, 0, none⟩) n c) ∧ tm.get 1 = some (.int .i64 (a : Nat)) ∧
      tm.get 10 = some (.int .i64 (i : Nat)) ∧ RowE H' 26 b n D ∧ HK (· = b) H H') ?_ ?_
    · refine EvC.block (EvC.loop (fun k st => ∃ tm H' i j, st = ⟨tm, [], H'⟩ ∧ k = j - i ∧ a + 1 ≤ i ∧ i ≤ j ∧ j ≤ e ∧ (∀ k, a + 1 ≤ k → k < i → cmp (D k) (D a) < 0) ∧ (∀ k, j ≤ k → k < e → ¬ cmp (D k) (D a) < 0) ∧ tm.get 0 = some (.slice (some ⟨b, 0, none⟩) n c) ∧ tm.get 1 = some (.int .i64 (a : Nat)) ∧ tm.get 4 = some (cvF g) ∧
        tm.get 10 = some (.int .i64 (i : Nat)) ∧ tm.get 11 = some (.int .i64 (j : Nat)) ∧ RowE H' 26 b n D ∧ HK (· = b) H H') ?_ (e - (a + 1)) _ ?_)
      · rintro k st ⟨tm, H', i, j, rfl, rfl, hi, hij, hj, q1, q2, t0, t1, t4, t10, t11, hr', hk⟩
        by_cases hlt : i < j
        · have k1 : (i + j) / 2 < n := by omega
          have k2 : a < n := by omega
          have l1 := hr'.load k1
          have l2 := hr'.load k2
          have gx := hG _ k1
          have gy := hG _ k2
          obtain ⟨cells0, hg0, -, -⟩ := hr'.row
          have hbl := hk.wf _ _ hg0
          have hb := hk.bump 11
          repeat' (first | refine EvC.seq ?_ | refine EvC.scope ?_ | refine EvC.block ?_ | (refine EvC.skip ?_; try simp only [z02]) | (refine EvC.exit ?_) | (refine EvC.ret ?_; try simp only [z01, z00]) | (refine EvC.reg ?_; simp (config := { maxSteps := 2000000 }) (disch := first | omega | rfl) only [sB, Nat.reduceEqDiff, z8x, z8z, t10, t11, decl hlt, zji (i := i) (j := j) (by omega), zjj (i := i) (j := j) (by omega), zjk (i := i) (j := j) (by omega), z4z]) | (refine EvC.drw (id := 5) [([(0, 0), (1, 0), (2, 0), (3, 0), (4, 0), (5, 0), (6, 0), (7, 0), (8, 0)], some 9), ([(10, 1)], none)] ?_ ?_; kernel_rfl; simp (config := { maxSteps := 2000000 }) (disch := first | omega | rfl) only [sD, sB, Nat.reduceEqDiff, Nat.reduceAdd, reduceCtorEq, ia24, ld26, t0, t1, t4, l1, l2, z2w, z21 hg, isAlloc, isRead, reduceCtorEq]) | (refine EvC.condT ?_ ?_; simp (config := { maxSteps := 2000000 }) (disch := first | omega | rfl) only [sB, Nat.reduceEqDiff]; refine z03 ?_))
          refine (C.run _ _ _ gx gy hb).mono ?_
          rintro v H2 ⟨rfl, hx2⟩
          have hk2 := hb.hxs hx2
          have r2 := hr'.heap (H' := H2) (by rw [hx2.keep b (Nat.lt_add_right _ hbl)]; rfl)
          by_cases hc : cmp (D ((i + j) / 2)) (D a) < 0
          · have hdc : decide (cmp (D ((i + j) / 2)) (D a) < 0) = true := decide_eq_true hc
            repeat' (first | refine EvC.seq ?_ | refine EvC.scope ?_ | refine EvC.block ?_ | (refine EvC.skip ?_) | (refine EvC.exit ?_) | (refine EvC.ret ?_; try simp only [z01, z00]) | (refine EvC.reg ?_; simp (config := { maxSteps := 2000000 }) (disch := first | omega | rfl) only [sB, Nat.reduceEqDiff, z5f (i := (i + j) / 2) (by omega)]) | (refine z0n ?_; simp (config := { maxSteps := 2000000 }) (disch := first | omega | rfl) only [sD, sB, Nat.reduceEqDiff, hdc, isAlloc, isRead]) | (refine EvC.condT ?_ ?_; simp (config := { maxSteps := 2000000 }) (disch := first | omega | rfl) only [sB, Nat.reduceEqDiff]; refine z03 ?_))
            refine ⟨j - ((i + j) / 2 + 1), by omega, _, _, (i + j) / 2 + 1, j, rfl, rfl, by omega, by omega, hj, fun k a1 a2 => ?_, q2, (by simp only [sG, reduceCtorEq, t0] <;> rfl), (by simp only [sG, Nat.reduceEqDiff, t1] <;> rfl), (by simp only [sG, Nat.reduceEqDiff, t4] <;> rfl), (by simp only [sG, Nat.reduceEqDiff] <;> rfl), (by simp only [sG, Nat.reduceEqDiff, t11] <;> rfl), r2, hk2⟩
            by_cases e1 : k = (i + j) / 2
            · subst e1; exact hc
            · exact C.ord.le_lt (hGe k (by omega)) gx gy (hrr k _ a1 (by omega) (by omega)) hc
          · have hdc : decide (cmp (D ((i + j) / 2)) (D a) < 0) = false := decide_eq_false hc
            repeat' (first | refine EvC.seq ?_ | refine EvC.scope ?_ | refine EvC.block ?_ | (refine EvC.skip ?_) | (refine EvC.exit ?_) | (refine EvC.ret ?_; try simp only [z01, z00]) | (refine EvC.reg ?_; simp (config := { maxSteps := 2000000 }) (disch := first | omega | rfl) only [sB, Nat.reduceEqDiff]) | (refine z0n ?_; simp (config := { maxSteps := 2000000 }) (disch := first | omega | rfl) only [sD, sB, Nat.reduceEqDiff, hdc, isAlloc, isRead]) | (refine EvC.condT ?_ ?_; simp (config := { maxSteps := 2000000 }) (disch := first | omega | rfl) only [sB, Nat.reduceEqDiff]; refine z03 ?_) | (refine EvC.condF ?_ ?_; simp (config := { maxSteps := 2000000 }) (disch := first | omega | rfl) only [sB, Nat.reduceEqDiff]; refine z03 ?_))
            refine ⟨(i + j) / 2 - i, by omega, _, _, i, (i + j) / 2, rfl, rfl, hi, by omega, by omega, q1, fun k a1 a2 h => ?_, (by simp only [sG, reduceCtorEq, t0] <;> rfl), (by simp only [sG, Nat.reduceEqDiff, t1] <;> rfl), (by simp only [sG, Nat.reduceEqDiff, t4] <;> rfl), (by simp only [sG, Nat.reduceEqDiff, t10] <;> rfl), (by simp only [sG, Nat.reduceEqDiff] <;> rfl), r2, hk2⟩
            by_cases e1 : k = (i + j) / 2
            · subst e1; exact hc h
            · exact hc (C.ord.le_lt gx (hGe k a2) gy (hrr _ k (by omega) (by omega) a2) h)
        · obtain rfl : i = j := by omega
          repeat' (first | refine EvC.seq ?_ | refine EvC.scope ?_ | refine EvC.block ?_ | (refine EvC.skip ?_) | (refine EvC.exit ?_; try simp only [sB, reduceCtorEq]) | (refine EvC.ret ?_; try simp only [z01, z00]) | (refine EvC.reg ?_; simp (config := { maxSteps := 2000000 }) (disch := first | omega | rfl) only [sB, Nat.reduceEqDiff, t10, t11, decn hlt]) | (refine EvC.condT ?_ ?_; simp (config := { maxSteps := 2000000 }) (disch := first | omega | rfl) only [sB, Nat.reduceEqDiff]; refine z03 ?_) | (refine EvC.condF ?_ ?_; simp (config := { maxSteps := 2000000 }) (disch := first | omega | rfl) only [sB, Nat.reduceEqDiff]; refine z03 ?_))
          exact ⟨_, _, i, rfl, hi, hj, q1, q2, (by simp only [sG, reduceCtorEq, t0] <;> rfl), (by simp only [sG, Nat.reduceEqDiff, t1] <;> rfl), (by simp only [sG, Nat.reduceEqDiff, t10] <;> rfl), hr', hk⟩
      · exact ⟨_, _, a + 1, e, rfl, rfl, Nat.le_refl _, by omega, Nat.le_refl _, fun k a1 a2 => by omega, fun k a1 a2 => by omega, (by simp only [sG, reduceCtorEq] <;> rfl), (by simp only [sG, Nat.reduceEqDiff, reduceCtorEq] <;> rfl), (by simp only [sG, Nat.reduceEqDiff, reduceCtorEq] <;> rfl), (by simp only [sG, Nat.reduceEqDiff, reduceCtorEq] <;> rfl), (by simp only [sG, Nat.reduceEqDiff, reduceCtorEq] <;> rfl), hr, HK.refl hw⟩
    · rintro st ⟨tm, H', i, rfl, hi, hie, q1, q2, t0, t1, t10, hr', hk⟩
      (repeat refine EvC.seq ?_); refine EvC.reg ?_; simp (config := { maxSteps := 2000000 }) (disch := first | omega | rfl) only [sB, t1]
      refine EvC.meet (fun st => ∃ tm H', st = ⟨tm, [], H'⟩ ∧ RowE H' 26 b n (rotF a (a + 1) i D) ∧ HK (· = b) H H') ?_ ?_
      · refine EvC.block (EvC.loop (fun k st => ∃ tm H' j, st = ⟨tm, [], H'⟩ ∧ k = i - j ∧ a ≤ j ∧ j + 1 ≤ i ∧ tm.get 0 = some (.slice (some ⟨b, 0, none⟩) n c) ∧ tm.get 10 = some (.int .i64 (i : Nat)) ∧ tm.get 13 = some (.int .i64 (j : Nat)) ∧
          RowE H' 26 b n (rotF a (a + 1) (j + 1) D) ∧ HK (· = b) H H') ?_ (i - a) _ ?_)
        · rintro k st ⟨tm, H', j, rfl, rfl, hj, hji, t0, t10, t13, hr', hk⟩
          by_cases hlt : j < i - 1
          · have k1 : j < n := by omega
            have k2 : j + 1 < n := by omega
            have l1 := hr'.load k1
            have l2 := hr'.load k2
            obtain ⟨cells, hg2, hle, he⟩ := hr'.row
            have hbl := hk.wf _ _ hg2
            have le1 : j * 6 + 6 ≤ cells.length := by have := mul6 k1; omega
            have le2 : (j + 1) * 6 + 6 ≤ cells.length := by have := mul6 k2; omega
            have hsw := fun H2 h2 => RowE.swap (H := H') (b := b) (T := 26) hle he k1 k2 (by omega) H2 h2
            rw [zm9 hj] at hsw
            generalize rotF a (a + 1) (j + 1) D j = E1 at *
            generalize rotF a (a + 1) (j + 1) D (j + 1) = E2 at *
            have le3 : (j + 1) * 6 + 6 ≤ (Hb.splice cells (j * 6) E2.six).length := by rw [z0s (vs := E2.six) le1]; exact le2
            repeat' (first | refine EvC.seq ?_ | refine EvC.scope ?_ | refine EvC.block ?_ | (refine EvC.skip ?_; try simp only [z02]) | (refine EvC.exit ?_) | (refine EvC.ret ?_; try simp only [z01, z00]) | (refine EvC.reg ?_; simp (config := { maxSteps := 2000000 }) (disch := first | omega | rfl) only [sB, Nat.reduceEqDiff, t10, t13, decl hlt, zb4 (i := i) (by omega) (by omega), z5f (i := j) (by omega)]) | (refine EvC.drw (id := 11) [([(0, 0), (1, 0), (5, 0), (6, 0), (7, 0), (8, 0), (9, 0), (10, 0), (11, 0), (12, 0), (13, 0), (14, 0)], some 15), ([(2, 0), (3, 0), (4, 0), (16, 1)], some 17), ([], none)] ?_ ?_; kernel_rfl; simp (config := { maxSteps := 2000000 }) (disch := first | omega | rfl) only [sV, sD, sB, Nat.reduceEqDiff, Nat.reduceAdd, one, reduceCtorEq, ia24, ld26, st26, t0, t13, z5f (i := j) (by omega), l1, l2, hg2, le1, le3, isAlloc, isRead, reduceCtorEq]) | (refine EvC.condT ?_ ?_; simp (config := { maxSteps := 2000000 }) (disch := first | omega | rfl) only [sB, Nat.reduceEqDiff]; refine z03 ?_))
            exact ⟨i - (j + 1), by omega, _, _, j + 1, rfl, rfl, by omega, by omega, (by simp only [sG, reduceCtorEq, t0] <;> rfl), (by simp only [sG, Nat.reduceEqDiff, t10] <;> rfl), (by simp only [sG, Nat.reduceEqDiff] <;> rfl), hsw _ (by rw [get_put, if_pos rfl]), hk.two hbl _ _ _⟩
          · repeat' (first | refine EvC.seq ?_ | refine EvC.scope ?_ | refine EvC.block ?_ | (refine EvC.skip ?_) | (refine EvC.exit ?_; try simp only [sB, reduceCtorEq]) | (refine EvC.ret ?_; try simp only [z01, z00]) | (refine EvC.reg ?_; simp (config := { maxSteps := 2000000 }) (disch := first | omega | rfl) only [sB, Nat.reduceEqDiff, t10, t13, decn hlt, zb4 (i := i) (by omega) (by omega)]) | (refine EvC.condT ?_ ?_; simp (config := { maxSteps := 2000000 }) (disch := first | omega | rfl) only [sB, Nat.reduceEqDiff]; refine z03 ?_) | (refine EvC.condF ?_ ?_; simp (config := { maxSteps := 2000000 }) (disch := first | omega | rfl) only [sB, Nat.reduceEqDiff]; refine z03 ?_))
            obtain rfl : j + 1 = i := by omega
            exact ⟨_, _, rfl, hr', hk⟩
        · exact ⟨_, _, a, rfl, rfl, Nat.le_refl _, hi, (by simp only [sG, reduceCtorEq, t0] <;> rfl), (by simp only [sG, Nat.reduceEqDiff, t10] <;> rfl), (by simp only [sG, Nat.reduceEqDiff] <;> rfl), by rw [zb3]; exact hr', hk⟩
      · rintro st ⟨tm, H', rfl, hr', hk⟩
        try simp (config := { maxSteps := 2000000 }) (disch := first | omega | rfl) only [z02]
        repeat' (first | refine EvC.seq ?_ | refine EvC.scope ?_ | refine EvC.block ?_ | (refine EvC.skip ?_) | (refine EvC.exit ?_) | (refine EvC.ret ?_; try simp only [z01, z00]))
        exact z7w rfl ⟨_, hr', (Mv.rot C.ord (by omega) hi (fun k hk => hGe k (by omega)) fun x y x1 x2 y1 y2 => by
          obtain rfl : x = a := by omega
          exact q1 y y1 y2).wide (Nat.le_refl _) hie, InO.into C.ord hi hie hrr hGe q1 q2, hk⟩
  have d1 : (((m - a : Nat) : Int) == 1) = false := by simp; omega
  by_cases c2 : e = m + 1
  ·
    subst c2
    have d2 : (((m + 1 - m : Nat) : Int) == 1) = true := z19 (by omega)
    (repeat refine EvC.seq ?_); refine EvC.reg ?_; simp (config := { maxSteps := 2000000 }) (disch := first | omega | rfl) only [sB, initTm, Nat.reduceEqDiff, Nat.reduceAdd, reduceCtorEq, sx1, d1]
    (repeat refine EvC.seq ?_); refine EvC.condF (by simp (config := { maxSteps := 2000000 }) (disch := first | omega | rfl) only [sB, Nat.reduceEqDiff, reduceCtorEq]) ?_; (try refine EvC.skip ?_); (try simp only [z02, z0a])
    (repeat refine EvC.seq ?_); refine EvC.reg ?_; simp (config := { maxSteps := 2000000 }) (disch := first | omega | rfl) only [sB, Nat.reduceEqDiff, reduceCtorEq, sx2, d2]
    (repeat refine EvC.seq ?_); refine EvC.condT (by simp (config := { maxSteps := 2000000 }) (disch := first | omega | rfl) only [sB, Nat.reduceEqDiff, reduceCtorEq]) ?_; (try refine EvC.skip ?_); (try simp only [z02, z0a])
    (repeat refine EvC.seq ?_); refine EvC.reg ?_; simp (config := { maxSteps := 2000000 }) (disch := first | omega | rfl) only [sB, Nat.reduceEqDiff, reduceCtorEq]
    (repeat refine EvC.seq ?_); refine EvC.reg ?_; simp (config := { maxSteps := 2000000 }) (disch := first | omega | rfl) only [sB, Nat.reduceEqDiff, reduceCtorEq]
    refine EvC.cut (fun st => ∃ tm H' i, st = ⟨tm, [], H'⟩ ∧ a ≤ i ∧ i ≤ m ∧ (∀ k, a ≤ k → k < i → ¬ cmp (D m) (D k) < 0) ∧ (∀ k, i ≤ k → k < m → cmp (D m) (D k) < 0) ∧ tm.get 0 = some (.slice (some ⟨b, 0, none⟩) n c) ∧ tm.get 2 = some (.int .i64 (m : Nat)) ∧
      tm.get 14 = some (.int .i64 (i : Nat)) ∧ RowE H' 26 b n D ∧ HK (· = b) H H') ?_ ?_
    · refine EvC.block (EvC.loop (fun k st => ∃ tm H' i j, st = ⟨tm, [], H'⟩ ∧ k = j - i ∧ a ≤ i ∧ i ≤ j ∧ j ≤ m ∧ (∀ k, a ≤ k → k < i → ¬ cmp (D m) (D k) < 0) ∧ (∀ k, j ≤ k → k < m → cmp (D m) (D k) < 0) ∧ tm.get 0 = some (.slice (some ⟨b, 0, none⟩) n c) ∧ tm.get 2 = some (.int .i64 (m : Nat)) ∧ tm.get 4 = some (cvF g) ∧
        tm.get 14 = some (.int .i64 (i : Nat)) ∧ tm.get 15 = some (.int .i64 (j : Nat)) ∧ RowE H' 26 b n D ∧ HK (· = b) H H') ?_ (m - a) _ ?_)
      · rintro k st ⟨tm, H', i, j, rfl, rfl, hi, hij, hj, q1, q2, t0, t2, t4, t14, t15, hr', hk⟩
        by_cases hlt : i < j
        · have k1 : (i + j) / 2 < n := by omega
          have k2 : m < n := by omega
          have l1 := hr'.load k1
          have l2 := hr'.load k2
          have gx := hG _ k1
          have gy := hG _ k2
          obtain ⟨cells0, hg0, -, -⟩ := hr'.row
          have hbl := hk.wf _ _ hg0
          have hb := hk.bump 12
          repeat' (first | refine EvC.seq ?_ | refine EvC.scope ?_ | refine EvC.block ?_ | (refine EvC.skip ?_; try simp only [z02]) | (refine EvC.exit ?_) | (refine EvC.ret ?_; try simp only [z01, z00]) | (refine EvC.reg ?_; simp (config := { maxSteps := 2000000 }) (disch := first | omega | rfl) only [sB, Nat.reduceEqDiff, z8x, z8z, t14, t15, decl hlt, zji (i := i) (j := j) (by omega), zjj (i := i) (j := j) (by omega), zjk (i := i) (j := j) (by omega), z4z]) | (refine EvC.drw (id := 17) [([(0, 0), (1, 0), (2, 0), (3, 0), (4, 0), (5, 0), (6, 0), (7, 0), (8, 0)], some 9), ([(10, 1), (11, 1)], none)] ?_ ?_; kernel_rfl; simp (config := { maxSteps := 2000000 }) (disch := first | omega | rfl) only [sD, sB, Nat.reduceEqDiff, Nat.reduceAdd, reduceCtorEq, ia24, ld26, t0, t2, t4, l1, l2, z2w, z21 hg, isAlloc, isRead, reduceCtorEq]) | (refine EvC.condT ?_ ?_; simp (config := { maxSteps := 2000000 }) (disch := first | omega | rfl) only [sB, Nat.reduceEqDiff]; refine z03 ?_))
          refine (C.run _ _ _ gy gx hb).mono ?_
          rintro v H2 ⟨rfl, hx2⟩
          have hk2 := hb.hxs hx2
          have r2 := hr'.heap (H' := H2) (by rw [hx2.keep b (Nat.lt_add_right _ hbl)]; rfl)
          by_cases hc : cmp (D m) (D ((i + j) / 2)) < 0
          · have hdc : decide (cmp (D m) (D ((i + j) / 2)) < 0) = true := decide_eq_true hc
            repeat' (first | refine EvC.seq ?_ | refine EvC.scope ?_ | refine EvC.block ?_ | (refine EvC.skip ?_) | (refine EvC.exit ?_) | (refine EvC.ret ?_; try simp only [z01, z00]) | (refine EvC.reg ?_; simp (config := { maxSteps := 2000000 }) (disch := first | omega | rfl) only [sB, Nat.reduceEqDiff]) | (refine z0n ?_; simp (config := { maxSteps := 2000000 }) (disch := first | omega | rfl) only [sD, sB, Nat.reduceEqDiff, hdc, Bool.not_true, isAlloc, isRead]) | (refine EvC.condT ?_ ?_; simp (config := { maxSteps := 2000000 }) (disch := first | omega | rfl) only [sB, Nat.reduceEqDiff]; refine z03 ?_) | (refine EvC.condF ?_ ?_; simp (config := { maxSteps := 2000000 }) (disch := first | omega | rfl) only [sB, Nat.reduceEqDiff]; refine z03 ?_))
            refine ⟨(i + j) / 2 - i, by omega, _, _, i, (i + j) / 2, rfl, rfl, hi, by omega, by omega, q1, fun k a1 a2 => ?_, (by simp only [sG, reduceCtorEq, t0] <;> rfl), (by simp only [sG, Nat.reduceEqDiff, t2] <;> rfl), (by simp only [sG, Nat.reduceEqDiff, t4] <;> rfl), (by simp only [sG, Nat.reduceEqDiff, t14] <;> rfl), (by simp only [sG, Nat.reduceEqDiff] <;> rfl), r2, hk2⟩
            by_cases e1 : k = (i + j) / 2
            · subst e1; exact hc
            · exact C.ord.lt_le gy gx (hGe k (by omega)) hc (hl _ k (by omega) (by omega) a2)
          · have hdc : decide (cmp (D m) (D ((i + j) / 2)) < 0) = false := decide_eq_false hc
            repeat' (first | refine EvC.seq ?_ | refine EvC.scope ?_ | refine EvC.block ?_ | (refine EvC.skip ?_) | (refine EvC.exit ?_) | (refine EvC.ret ?_; try simp only [z01, z00]) | (refine EvC.reg ?_; simp (config := { maxSteps := 2000000 }) (disch := first | omega | rfl) only [sB, Nat.reduceEqDiff, z5f (i := (i + j) / 2) (by omega)]) | (refine z0n ?_; simp (config := { maxSteps := 2000000 }) (disch := first | omega | rfl) only [sD, sB, Nat.reduceEqDiff, hdc, Bool.not_false, isAlloc, isRead]) | (refine EvC.condT ?_ ?_; simp (config := { maxSteps := 2000000 }) (disch := first | omega | rfl) only [sB, Nat.reduceEqDiff]; refine z03 ?_))
            refine ⟨j - ((i + j) / 2 + 1), by omega, _, _, (i + j) / 2 + 1, j, rfl, rfl, by omega, by omega, hj, fun k a1 a2 h => ?_, q2, (by simp only [sG, reduceCtorEq, t0] <;> rfl), (by simp only [sG, Nat.reduceEqDiff, t2] <;> rfl), (by simp only [sG, Nat.reduceEqDiff, t4] <;> rfl), (by simp only [sG, Nat.reduceEqDiff] <;> rfl), (by simp only [sG, Nat.reduceEqDiff, t15] <;> rfl), r2, hk2⟩
            by_cases e1 : k = (i + j) / 2
            · subst e1; exact hc h
            · exact hc (C.ord.lt_le gy (hGe k (by omega)) gx h (hl k _ a1 (by omega) (by omega)))
        · obtain rfl : i = j := by omega
          repeat' (first | refine EvC.seq ?_ | refine EvC.scope ?_ | refine EvC.block ?_ | (refine EvC.skip ?_) | (refine EvC.exit ?_; try simp only [sB, reduceCtorEq]) | (refine EvC.ret ?_; try simp only [z01, z00]) | (refine EvC.reg ?_; simp (config := { maxSteps := 2000000 }) (disch := first | omega | rfl) only [sB, Nat.reduceEqDiff, t14, t15, decn hlt]) | (refine EvC.condT ?_ ?_; simp (config := { maxSteps := 2000000 }) (disch := first | omega | rfl) only [sB, Nat.reduceEqDiff]; refine z03 ?_) | (refine EvC.condF ?_ ?_; simp (config := { maxSteps := 2000000 }) (disch := first | omega | rfl) only [sB, Nat.reduceEqDiff]; refine z03 ?_))
          exact ⟨_, _, i, rfl, hi, hj, q1, q2, (by simp only [sG, reduceCtorEq, t0] <;> rfl), (by simp only [sG, Nat.reduceEqDiff, t2] <;> rfl), (by simp only [sG, Nat.reduceEqDiff, t14] <;> rfl), hr', hk⟩
      · exact ⟨_, _, a, m, rfl, rfl, Nat.le_refl _, by omega, Nat.le_refl _, fun k a1 a2 => by omega, fun k a1 a2 => by omega, (by simp only [sG, reduceCtorEq] <;> rfl), (by simp only [sG, Nat.reduceEqDiff, reduceCtorEq] <;> rfl), (by simp only [sG, Nat.reduceEqDiff, reduceCtorEq] <;> rfl), (by simp only [sG, Nat.reduceEqDiff, reduceCtorEq] <;> rfl), (by simp only [sG, Nat.reduceEqDiff, reduceCtorEq] <;> rfl), hr, HK.refl hw⟩
    · rintro st ⟨tm, H', i, rfl, hi, him, q1, q2, t0, t2, t14, hr', hk⟩
      (repeat refine EvC.seq ?_); refine EvC.reg ?_; simp (config := { maxSteps := 2000000 }) (disch := first | omega | rfl) only [sB, t2]
      refine EvC.meet (fun st => ∃ tm H', st = ⟨tm, [], H'⟩ ∧ RowE H' 26 b n (rotF i m (m + 1) D) ∧ HK (· = b) H H') ?_ ?_
      · refine EvC.block (EvC.loop (fun k st => ∃ tm H' j, st = ⟨tm, [], H'⟩ ∧ k = j ∧ i ≤ j ∧ j ≤ m ∧ tm.get 0 = some (.slice (some ⟨b, 0, none⟩) n c) ∧ tm.get 14 = some (.int .i64 (i : Nat)) ∧ tm.get 17 = some (.int .i64 (j : Nat)) ∧
          RowE H' 26 b n (rotF j m (m + 1) D) ∧ HK (· = b) H H') ?_ m _ ?_)
        · rintro k st ⟨tm, H', j, rfl, rfl, hj, hji, t0, t14, t17, hr', hk⟩
          by_cases hlt : i < k
          · obtain ⟨j, rfl⟩ : ∃ j, k = j + 1 := ⟨k - 1, by omega⟩
            have k1 : j + 1 < n := by omega
            have k2 : j < n := by omega
            have l1 := hr'.load k1
            have l2 := hr'.load k2
            obtain ⟨cells, hg2, hle, he⟩ := hr'.row
            have hbl := hk.wf _ _ hg2
            have le1 : (j + 1) * 6 + 6 ≤ cells.length := by have := mul6 k1; omega
            have le2 : j * 6 + 6 ≤ cells.length := by have := mul6 k2; omega
            have hsw := fun H2 h2 => RowE.swap (H := H') (b := b) (T := 26) hle he k1 k2 (by omega) H2 h2
            rw [zhd hji] at hsw
            have hs1 : IntKind.i64.wrap (((j + 1 : Nat) : Int) - 1) = ((j : Nat) : Int) := by rw [z06 (by omega) (by omega)]; omega
            generalize rotF (j + 1) m (m + 1) D (j + 1) = E1 at *
            generalize rotF (j + 1) m (m + 1) D j = E2 at *
            have le3 : j * 6 + 6 ≤ (Hb.splice cells ((j + 1) * 6) E2.six).length := by rw [z0s (vs := E2.six) le1]; exact le2
            repeat' (first | refine EvC.seq ?_ | refine EvC.scope ?_ | refine EvC.block ?_ | (refine EvC.skip ?_; try simp only [z02]) | (refine EvC.exit ?_) | (refine EvC.ret ?_; try simp only [z01, z00]) | (refine EvC.reg ?_; simp (config := { maxSteps := 2000000 }) (disch := first | omega | rfl) only [sB, Nat.reduceEqDiff, t14, t17, gtl hlt, hs1]) | (refine EvC.drw (id := 23) [([(0, 0), (1, 0), (5, 0), (6, 0), (7, 0), (8, 0), (9, 0), (10, 0), (11, 0), (12, 0), (13, 0), (14, 0)], some 15), ([(2, 0), (3, 0), (4, 0), (16, 1)], some 17), ([], none)] ?_ ?_; kernel_rfl; simp (config := { maxSteps := 2000000 }) (disch := first | omega | rfl) only [sV, sD, sB, Nat.reduceEqDiff, Nat.reduceAdd, one, reduceCtorEq, ia24, ld26, st26, t0, t17, hs1, l1, l2, hg2, le1, le3, isAlloc, isRead, reduceCtorEq]) | (refine EvC.condT ?_ ?_; simp (config := { maxSteps := 2000000 }) (disch := first | omega | rfl) only [sB, Nat.reduceEqDiff]; refine z03 ?_))
            exact ⟨j, by omega, _, _, j, rfl, rfl, by omega, by omega, (by simp only [sG, reduceCtorEq, t0] <;> rfl), (by simp only [sG, Nat.reduceEqDiff, t14] <;> rfl), (by simp only [sG, Nat.reduceEqDiff] <;> rfl), hsw _ (by rw [get_put, if_pos rfl]), hk.two hbl _ _ _⟩
          · repeat' (first | refine EvC.seq ?_ | refine EvC.scope ?_ | refine EvC.block ?_ | (refine EvC.skip ?_) | (refine EvC.exit ?_; try simp only [sB, reduceCtorEq]) | (refine EvC.ret ?_; try simp only [z01, z00]) | (refine EvC.reg ?_; simp (config := { maxSteps := 2000000 }) (disch := first | omega | rfl) only [sB, Nat.reduceEqDiff, t14, t17, gtn hlt]) | (refine EvC.condT ?_ ?_; simp (config := { maxSteps := 2000000 }) (disch := first | omega | rfl) only [sB, Nat.reduceEqDiff]; refine z03 ?_) | (refine EvC.condF ?_ ?_; simp (config := { maxSteps := 2000000 }) (disch := first | omega | rfl) only [sB, Nat.reduceEqDiff]; refine z03 ?_))
            obtain rfl : k = i := by omega
            exact ⟨_, _, rfl, hr', hk⟩
        · exact ⟨_, _, m, rfl, rfl, him, Nat.le_refl _, (by simp only [sG, reduceCtorEq, t0] <;> rfl), (by simp only [sG, Nat.reduceEqDiff, t14] <;> rfl), (by simp only [sG, Nat.reduceEqDiff] <;> rfl), by rw [ze2]; exact hr', hk⟩
      · rintro st ⟨tm, H', rfl, hr', hk⟩
        try simp (config := { maxSteps := 2000000 }) (disch := first | omega | rfl) only [z02]
        repeat' (first | refine EvC.seq ?_ | refine EvC.scope ?_ | refine EvC.block ?_ | (refine EvC.skip ?_) | (refine EvC.exit ?_) | (refine EvC.ret ?_; try simp only [z01, z00]))
        exact z7w rfl ⟨_, hr', (Mv.rot C.ord him (by omega) (fun k hk => hGe k (by omega)) fun x y x1 x2 y1 y2 => by
          obtain rfl : y = m := by omega
          exact q2 x x1 x2).wide hi (Nat.le_refl _), InO.onto C.ord hi him hl hGe q1 q2, hk⟩
  have d2 : (((e - m : Nat) : Int) == 1) = false := by simp; omega
  (repeat refine EvC.seq ?_); refine EvC.reg ?_; simp (config := { maxSteps := 2000000 }) (disch := first | omega | rfl) only [sB, initTm, Nat.reduceEqDiff, Nat.reduceAdd, reduceCtorEq, sx1, d1]
  (repeat refine EvC.seq ?_); refine EvC.condF (by simp (config := { maxSteps := 2000000 }) (disch := first | omega | rfl) only [sB, Nat.reduceEqDiff, reduceCtorEq]) ?_; (try refine EvC.skip ?_); (try simp only [z02, z0a])
  (repeat refine EvC.seq ?_); refine EvC.reg ?_; simp (config := { maxSteps := 2000000 }) (disch := first | omega | rfl) only [sB, Nat.reduceEqDiff, reduceCtorEq, sx2, d2]
  (repeat refine EvC.seq ?_); refine EvC.condF (by simp (config := { maxSteps := 2000000 }) (disch := first | omega | rfl) only [sB, Nat.reduceEqDiff, reduceCtorEq]) ?_; (try refine EvC.skip ?_); (try simp only [z02, z0a])
  have sx3 : IntKind.i64.wrap ((((a + e) / 2 : Nat) : Int) + (m : Int)) = (((a + e) / 2 + m : Nat) : Int) := by rw [z06 (by omega) (by omega)]; omega
  (repeat refine EvC.seq ?_); refine EvC.reg ?_; simp (config := { maxSteps := 2000000 }) (disch := first | omega | rfl) only [sB, Nat.reduceEqDiff, reduceCtorEq, z8x, z8z, zji (i := a) (j := e) (by omega), zjj (i := a) (j := e) (by omega), zjk (i := a) (j := e) (by omega), z4z]
  (repeat refine EvC.seq ?_); refine EvC.reg ?_; simp (config := { maxSteps := 2000000 }) (disch := first | omega | rfl) only [sB, Nat.reduceEqDiff, reduceCtorEq, sx3]
  (repeat refine EvC.seq ?_); refine EvC.reg ?_; simp (config := { maxSteps := 2000000 }) (disch := first | omega | rfl) only [sA]
  (repeat refine EvC.seq ?_); refine EvC.reg ?_; simp (config := { maxSteps := 2000000 }) (disch := first | omega | rfl) only [sB, Nat.reduceEqDiff, reduceCtorEq]
  refine EvC.meet (fun st => ∃ tm s0 r0, st = ⟨tm, [], H⟩ ∧ ((m > (a + e) / 2 ∧ s0 = (a + e) / 2 + m - e ∧ r0 = (a + e) / 2) ∨ (m ≤ (a + e) / 2 ∧ s0 = a ∧ r0 = m)) ∧ tm.get 0 = some (.slice (some ⟨b, 0, none⟩) n c) ∧ tm.get 1 = some (.int .i64 (a : Nat)) ∧ tm.get 2 = some (.int .i64 (m : Nat)) ∧ tm.get 3 = some (.int .i64 (e : Nat)) ∧ tm.get 4 = some (cvF g) ∧
    tm.get 18 = some (.int .i64 (((a + e) / 2 : Nat) : Int)) ∧ tm.get 19 = some (.int .i64 (((a + e) / 2 + m : Nat) : Int)) ∧ tm.get 20 = some (.int .i64 (s0 : Nat)) ∧ tm.get 21 = some (.int .i64 (r0 : Nat))) ?_ ?_
  · by_cases hgt : (a + e) / 2 < m
    · repeat' (first | refine EvC.seq ?_ | refine EvC.scope ?_ | refine EvC.block ?_ | (refine EvC.skip ?_) | (refine EvC.exit ?_) | (refine EvC.ret ?_; try simp only [z01, z00]) | (refine EvC.reg ?_; simp (config := { maxSteps := 2000000 }) (disch := first | omega | rfl) only [sB, Nat.reduceEqDiff, reduceCtorEq, gtl hgt, zhe (i := (a + e) / 2 + m) (j := e) (by omega) (by omega)]) | (refine EvC.condT ?_ ?_; simp (config := { maxSteps := 2000000 }) (disch := first | omega | rfl) only [sB, Nat.reduceEqDiff, reduceCtorEq, gtl hgt]; refine z03 ?_))
      exact ⟨_, _, _, rfl, .inl ⟨hgt, rfl, rfl⟩, (by simp only [sG, reduceCtorEq] <;> rfl), (by simp only [sG, Nat.reduceEqDiff, reduceCtorEq] <;> rfl), (by simp only [sG, Nat.reduceEqDiff, reduceCtorEq] <;> rfl), (by simp only [sG, Nat.reduceEqDiff, reduceCtorEq] <;> rfl), (by simp only [sG, Nat.reduceEqDiff, reduceCtorEq] <;> rfl), (by simp only [sG, Nat.reduceEqDiff, reduceCtorEq] <;> rfl), (by simp only [sG, Nat.reduceEqDiff, reduceCtorEq] <;> rfl), (by simp only [sG, Nat.reduceEqDiff, reduceCtorEq] <;> rfl), (by simp only [sG, Nat.reduceEqDiff, reduceCtorEq] <;> rfl)⟩
    · repeat' (first | refine EvC.seq ?_ | refine EvC.scope ?_ | refine EvC.block ?_ | (refine EvC.skip ?_) | (refine EvC.exit ?_) | (refine EvC.ret ?_; try simp only [z01, z00]) | (refine EvC.reg ?_; simp (config := { maxSteps := 2000000 }) (disch := first | omega | rfl) only [sB, Nat.reduceEqDiff, reduceCtorEq, gtn hgt]) | (refine EvC.condT ?_ ?_; simp (config := { maxSteps := 2000000 }) (disch := first | omega | rfl) only [sB, Nat.reduceEqDiff, reduceCtorEq, gtn hgt]; refine z03 ?_) | (refine EvC.condF ?_ ?_; simp (config := { maxSteps := 2000000 }) (disch := first | omega | rfl) only [sB, Nat.reduceEqDiff, reduceCtorEq, gtn hgt]; refine z03 ?_))
      exact ⟨_, _, _, rfl, .inr ⟨by omega, rfl, rfl⟩, (by simp only [sG, reduceCtorEq] <;> rfl), (by simp only [sG, Nat.reduceEqDiff, reduceCtorEq] <;> rfl), (by simp only [sG, Nat.reduceEqDiff, reduceCtorEq] <;> rfl), (by simp only [sG, Nat.reduceEqDiff, reduceCtorEq] <;> rfl), (by simp only [sG, Nat.reduceEqDiff, reduceCtorEq] <;> rfl), (by simp only [sG, Nat.reduceEqDiff, reduceCtorEq] <;> rfl), (by simp only [sG, Nat.reduceEqDiff, reduceCtorEq] <;> rfl), (by simp only [sG, Nat.reduceEqDiff, reduceCtorEq] <;> rfl), (by simp only [sG, Nat.reduceEqDiff, reduceCtorEq] <;> rfl)⟩
  rintro st ⟨tm, s0, r0, rfl, hsr, t0, t1, t2, t3, t4, t18, t19, t20, t21⟩
  try simp (config := { maxSteps := 2000000 }) (disch := first | omega | rfl) only [z02]
  (repeat refine EvC.seq ?_); refine EvC.reg ?_; simp (config := { maxSteps := 2000000 }) (disch := first | omega | rfl) only [sB, Nat.reduceEqDiff, t19, zb4 (i := (a + e) / 2 + m) (by omega) (by omega)]
  refine EvC.cut (fun st => ∃ tm H' s, st = ⟨tm, [], H'⟩ ∧ s0 ≤ s ∧ s ≤ r0 ∧ (∀ k, s0 ≤ k → k < s → ¬ cmp (D ((a + e) / 2 + m - 1 - k)) (D k) < 0) ∧ (∀ k, s ≤ k → k < r0 → cmp (D ((a + e) / 2 + m - 1 - k)) (D k) < 0) ∧
    tm.get 0 = some (.slice (some ⟨b, 0, none⟩) n c) ∧ tm.get 1 = some (.int .i64 (a : Nat)) ∧ tm.get 2 = some (.int .i64 (m : Nat)) ∧ tm.get 3 = some (.int .i64 (e : Nat)) ∧ tm.get 4 = some (cvF g) ∧
    tm.get 18 = some (.int .i64 (((a + e) / 2 : Nat) : Int)) ∧ tm.get 19 = some (.int .i64 (((a + e) / 2 + m : Nat) : Int)) ∧ tm.get 20 = some (.int .i64 (s : Nat)) ∧ RowE H' 26 b n D ∧ HK (· = b) H H') ?_ ?_
  · refine EvC.block (EvC.loop (fun k st => ∃ tm H' i j, st = ⟨tm, [], H'⟩ ∧ k = j - i ∧ s0 ≤ i ∧ i ≤ j ∧ j ≤ r0 ∧ (∀ k, s0 ≤ k → k < i → ¬ cmp (D ((a + e) / 2 + m - 1 - k)) (D k) < 0) ∧ (∀ k, j ≤ k → k < r0 → cmp (D ((a + e) / 2 + m - 1 - k)) (D k) < 0) ∧
      tm.get 0 = some (.slice (some ⟨b, 0, none⟩) n c) ∧ tm.get 1 = some (.int .i64 (a : Nat)) ∧ tm.get 2 = some (.int .i64 (m : Nat)) ∧ tm.get 3 = some (.int .i64 (e : Nat)) ∧ tm.get 4 = some (cvF g) ∧
      tm.get 18 = some (.int .i64 (((a + e) / 2 : Nat) : Int)) ∧ tm.get 19 = some (.int .i64 (((a + e) / 2 + m : Nat) : Int)) ∧ tm.get 20 = some (.int .i64 (i : Nat)) ∧ tm.get 21 = some (.int .i64 (j : Nat)) ∧ tm.get 22 = some (.int .i64 (((a + e) / 2 + m - 1 : Nat) : Int)) ∧ RowE H' 26 b n D ∧ HK (· = b) H H') ?_ (r0 - s0) _ ?_)
    · rintro k st ⟨tm, H', i, j, rfl, rfl, hi, hij, hj, q1, q2, t0, t1, t2, t3, t4, t18, t19, t20, t21, t22, hr', hk⟩
      by_cases hlt : i < j
      · have k1 : (a + e) / 2 + m - 1 - (i + j) / 2 < n := by omega
        have k2 : (i + j) / 2 < n := by omega
        have l1 := hr'.load k1
        have l2 := hr'.load k2
        have gx := hG _ k1
        have gy := hG _ k2
        obtain ⟨cells0, hg0, -, -⟩ := hr'.row
        have hbl := hk.wf _ _ hg0
        have hb := hk.bump 14
        have mono : ∀ x y, s0 ≤ x → x < y → y < r0 → cmp (D ((a + e) / 2 + m - 1 - x)) (D x) < 0 → cmp (D ((a + e) / 2 + m - 1 - y)) (D y) < 0 := fun x y x1 x2 x3 h =>
          C.ord.lt_le (hG _ (by omega)) (hG _ (by omega)) (hG _ (by omega)) (C.ord.le_lt (hG _ (by omega)) (hG _ (by omega)) (hG _ (by omega)) (hrr _ _ (by omega) (by omega) (by omega)) h) (hl _ _ (by omega) x2 (by omega))
        repeat' (first | refine EvC.seq ?_ | refine EvC.scope ?_ | refine EvC.block ?_ | (refine EvC.skip ?_; try simp only [z02]) | (refine EvC.exit ?_) | (refine EvC.ret ?_; try simp only [z01, z00]) | (refine EvC.reg ?_; simp (config := { maxSteps := 2000000 }) (disch := first | omega | rfl) only [sB, Nat.reduceEqDiff, z8x, z8z, t20, t21, decl hlt, zji (i := i) (j := j) (by omega), zjj (i := i) (j := j) (by omega), zjk (i := i) (j := j) (by omega), z4z]) | (refine EvC.drw (id := 35) [([(0, 0), (1, 0), (2, 0), (3, 0), (4, 0), (5, 0), (6, 0), (7, 0), (8, 0), (9, 0), (10, 0)], some 11), ([(12, 1), (13, 1)], none)] ?_ ?_; kernel_rfl; simp (config := { maxSteps := 2000000 }) (disch := first | omega | rfl) only [sD, sB, Nat.reduceEqDiff, Nat.reduceAdd, reduceCtorEq, ia24, ld26, t0, t4, t22, zhe (i := (a + e) / 2 + m - 1) (j := (i + j) / 2) (by omega) (by omega), l1, l2, z2w, z21 hg, isAlloc, isRead, reduceCtorEq]) | (refine EvC.condT ?_ ?_; simp (config := { maxSteps := 2000000 }) (disch := first | omega | rfl) only [sB, Nat.reduceEqDiff]; refine z03 ?_))
        refine (C.run _ _ _ gx gy hb).mono ?_
        rintro v H2 ⟨rfl, hx2⟩
        have hk2 := hb.hxs hx2
        have r2 := hr'.heap (H' := H2) (by rw [hx2.keep b (Nat.lt_add_right _ hbl)]; rfl)
        by_cases hc : cmp (D ((a + e) / 2 + m - 1 - (i + j) / 2)) (D ((i + j) / 2)) < 0
        · have hdc : decide (cmp (D ((a + e) / 2 + m - 1 - (i + j) / 2)) (D ((i + j) / 2)) < 0) = true := decide_eq_true hc
          repeat' (first | refine EvC.seq ?_ | refine EvC.scope ?_ | refine EvC.block ?_ | (refine EvC.skip ?_) | (refine EvC.exit ?_) | (refine EvC.ret ?_; try simp only [z01, z00]) | (refine EvC.reg ?_; simp (config := { maxSteps := 2000000 }) (disch := first | omega | rfl) only [sB, Nat.reduceEqDiff]) | (refine z0n ?_; simp (config := { maxSteps := 2000000 }) (disch := first | omega | rfl) only [sD, sB, Nat.reduceEqDiff, hdc, Bool.not_true, isAlloc, isRead]) | (refine EvC.condT ?_ ?_; simp (config := { maxSteps := 2000000 }) (disch := first | omega | rfl) only [sB, Nat.reduceEqDiff]; refine z03 ?_) | (refine EvC.condF ?_ ?_; simp (config := { maxSteps := 2000000 }) (disch := first | omega | rfl) only [sB, Nat.reduceEqDiff]; refine z03 ?_))
          refine ⟨(i + j) / 2 - i, by omega, _, _, i, (i + j) / 2, rfl, rfl, hi, by omega, by omega, q1, fun k a1 a2 => ?_, (by simp only [sG, reduceCtorEq, t0] <;> rfl), (by simp only [sG, Nat.reduceEqDiff, t1] <;> rfl), (by simp only [sG, Nat.reduceEqDiff, t2] <;> rfl), (by simp only [sG, Nat.reduceEqDiff, t3] <;> rfl), (by simp only [sG, Nat.reduceEqDiff, t4] <;> rfl), (by simp only [sG, Nat.reduceEqDiff, t18] <;> rfl), (by simp only [sG, Nat.reduceEqDiff, t19] <;> rfl), (by simp only [sG, Nat.reduceEqDiff, t20] <;> rfl), (by simp only [sG, Nat.reduceEqDiff] <;> rfl), (by simp only [sG, Nat.reduceEqDiff, t22] <;> rfl), r2, hk2⟩
          by_cases e1 : k = (i + j) / 2
          · subst e1; exact hc
          · exact mono _ _ (by omega) (by omega) a2 hc
        · have hdc : decide (cmp (D ((a + e) / 2 + m - 1 - (i + j) / 2)) (D ((i + j) / 2)) < 0) = false := decide_eq_false hc
          repeat' (first | refine EvC.seq ?_ | refine EvC.scope ?_ | refine EvC.block ?_ | (refine EvC.skip ?_) | (refine EvC.exit ?_) | (refine EvC.ret ?_; try simp only [z01, z00]) | (refine EvC.reg ?_; simp (config := { maxSteps := 2000000 }) (disch := first | omega | rfl) only [sB, Nat.reduceEqDiff, z5f (i := (i + j) / 2) (by omega)]) | (refine z0n ?_; simp (config := { maxSteps := 2000000 }) (disch := first | omega | rfl) only [sD, sB, Nat.reduceEqDiff, hdc, Bool.not_false, isAlloc, isRead]) | (refine EvC.condT ?_ ?_; simp (config := { maxSteps := 2000000 }) (disch := first | omega | rfl) only [sB, Nat.reduceEqDiff]; refine z03 ?_))
          refine ⟨j - ((i + j) / 2 + 1), by omega, _, _, (i + j) / 2 + 1, j, rfl, rfl, by omega, by omega, hj, fun k a1 a2 h => ?_, q2, (by simp only [sG, reduceCtorEq, t0] <;> rfl), (by simp only [sG, Nat.reduceEqDiff, t1] <;> rfl), (by simp only [sG, Nat.reduceEqDiff, t2] <;> rfl), (by simp only [sG, Nat.reduceEqDiff, t3] <;> rfl), (by simp only [sG, Nat.reduceEqDiff, t4] <;> rfl), (by simp only [sG, Nat.reduceEqDiff, t18] <;> rfl), (by simp only [sG, Nat.reduceEqDiff, t19] <;> rfl), (by simp only [sG, Nat.reduceEqDiff] <;> rfl), (by simp only [sG, Nat.reduceEqDiff, t21] <;> rfl), (by simp only [sG, Nat.reduceEqDiff, t22] <;> rfl), r2, hk2⟩
          by_cases e1 : k = (i + j) / 2
          · subst e1; exact hc h
          · exact hc (mono _ _ a1 (by omega) (by omega) h)
      · obtain rfl : i = j := by omega
        repeat' (first | refine EvC.seq ?_ | refine EvC.scope ?_ | refine EvC.block ?_ | (refine EvC.skip ?_) | (refine EvC.exit ?_; try simp only [sB, reduceCtorEq]) | (refine EvC.ret ?_; try simp only [z01, z00]) | (refine EvC.reg ?_; simp (config := { maxSteps := 2000000 }) (disch := first | omega | rfl) only [sB, Nat.reduceEqDiff, t20, t21, decn hlt]) | (refine EvC.condT ?_ ?_; simp (config := { maxSteps := 2000000 }) (disch := first | omega | rfl) only [sB, Nat.reduceEqDiff]; refine z03 ?_) | (refine EvC.condF ?_ ?_; simp (config := { maxSteps := 2000000 }) (disch := first | omega | rfl) only [sB, Nat.reduceEqDiff]; refine z03 ?_))
        exact ⟨_, _, i, rfl, hi, hj, q1, q2, (by simp only [sG, reduceCtorEq, t0] <;> rfl), (by simp only [sG, Nat.reduceEqDiff, t1] <;> rfl), (by simp only [sG, Nat.reduceEqDiff, t2] <;> rfl), (by simp only [sG, Nat.reduceEqDiff, t3] <;> rfl), (by simp only [sG, Nat.reduceEqDiff, t4] <;> rfl), (by simp only [sG, Nat.reduceEqDiff, t18] <;> rfl), (by simp only [sG, Nat.reduceEqDiff, t19] <;> rfl), (by simp only [sG, Nat.reduceEqDiff, t20] <;> rfl), hr', hk⟩
    · exact ⟨_, _, s0, r0, rfl, rfl, Nat.le_refl _, by omega, Nat.le_refl _, fun k a1 a2 => by omega, fun k a1 a2 => by omega, (by simp only [sG, reduceCtorEq, t0] <;> rfl), (by simp only [sG, Nat.reduceEqDiff, t1] <;> rfl), (by simp only [sG, Nat.reduceEqDiff, t2] <;> rfl), (by simp only [sG, Nat.reduceEqDiff, t3] <;> rfl), (by simp only [sG, Nat.reduceEqDiff, t4] <;> rfl), (by simp only [sG, Nat.reduceEqDiff, t18] <;> rfl), (by simp only [sG, Nat.reduceEqDiff, t19] <;> rfl), (by simp only [sG, Nat.reduceEqDiff, t20] <;> rfl), (by simp only [sG, Nat.reduceEqDiff, t21] <;> rfl), (by simp only [sG, Nat.reduceEqDiff] <;> rfl), hr, HK.refl hw⟩
  rintro st ⟨tm, H1, s, rfl, q1, q2, q3, q4, t0, t1, t2, t3, t4, t18, t19, t20, hr1, hk1⟩
  have M := Mid.made C.ord h1 h2 hl hrr hGe hsr q1 q2 q3 q4
  obtain ⟨mv, o1, o2, o3, o4, ox⟩ := M.halves C.ord h1 h2 hl hrr hGe
  have s1 := M.s1
  have s2 := M.s2
  have s3 := M.s3
  have s4 := M.s4
  have hmid : (a + e) / 2 < e := by omega
  have hmid2 : a ≤ (a + e) / 2 := by omega
  have hN2 : (a + e) / 2 - a ≤ N := by omega
  have hN3 : e - (a + e) / 2 ≤ N := by omega
  have hrn : (a + e) / 2 + m < 2097153 := by omega
  clear sx1 sx2 sx3 d1 d2 c1 c2 hsr q1 q2 q3 q4
  generalize (a + e) / 2 = md at *
  (repeat refine EvC.seq ?_); refine EvC.reg ?_; simp (config := { maxSteps := 2000000 }) (disch := first | omega | rfl) only [sB, Nat.reduceEqDiff, t19, t20, zhe (i := md + m) (j := s) (by omega) hrn]
  have hen : md ≤ md + m - s := by omega
  have hem : m ≤ md + m - s := by omega
  generalize hen2 : md + m - s = en at *
  refine EvC.cut (fun st => ∃ tm H2, st = ⟨tm, [], H2⟩ ∧ tm.get 0 = some (.slice (some ⟨b, 0, none⟩) n c) ∧ tm.get 1 = some (.int .i64 (a : Nat)) ∧ tm.get 3 = some (.int .i64 (e : Nat)) ∧ tm.get 4 = some (cvF g) ∧
    tm.get 18 = some (.int .i64 (md : Nat)) ∧ tm.get 20 = some (.int .i64 (s : Nat)) ∧ tm.get 24 = some (.int .i64 (en : Nat)) ∧ RowE H2 26 b n (rotF s m en D) ∧ HK (· = b) H H2) ?_ ?_
  · have hno : ¬(s < m ∧ m < en) → RowE H1 26 b n (rotF s m en D) := fun x => by
      rcases (by omega : s = m ∨ m = en) with h | h
      · rw [h, ze2]; exact hr1
      · rw [← h, zb3]; exact hr1
    by_cases x1 : s < m
    · by_cases x2 : m < en
      · repeat' (first | refine EvC.seq ?_ | refine EvC.scope ?_ | refine EvC.block ?_ | (refine EvC.skip ?_) | (refine EvC.exit ?_) | (refine EvC.ret ?_; try simp only [z01, z00]) | (refine EvC.reg ?_; simp (config := { maxSteps := 2000000 }) (disch := first | omega | rfl) only [sB, Nat.reduceEqDiff, reduceCtorEq, zo2, t0, t2, t4, t20, decl x1, decl x2]) | (refine EvC.condT ?_ ?_; simp (config := { maxSteps := 2000000 }) (disch := first | omega | rfl) only [sB, Nat.reduceEqDiff]; refine z03 ?_))
        refine (zhc hr1 hn x1 x2 (by omega) hk1.wf).mono ?_
        rintro v H2 ⟨hr2, hk2⟩
        repeat' (first | refine EvC.seq ?_ | refine EvC.scope ?_ | refine EvC.block ?_ | (refine EvC.skip ?_) | (refine EvC.exit ?_) | (refine EvC.ret ?_; try simp only [z01, z00]))
        exact ⟨_, _, rfl, (by simp only [sG, reduceCtorEq, t0] <;> rfl), (by simp only [sG, Nat.reduceEqDiff, t1] <;> rfl), (by simp only [sG, Nat.reduceEqDiff, t3] <;> rfl), (by simp only [sG, Nat.reduceEqDiff, t4] <;> rfl), (by simp only [sG, Nat.reduceEqDiff, t18] <;> rfl), (by simp only [sG, Nat.reduceEqDiff, t20] <;> rfl), (by simp only [sG, Nat.reduceEqDiff] <;> rfl), hr2, hk1.trans hk2⟩
      · repeat' (first | refine EvC.seq ?_ | refine EvC.scope ?_ | refine EvC.block ?_ | (refine EvC.skip ?_; try simp only [true_and]) | (refine EvC.exit ?_) | (refine EvC.ret ?_; try simp only [z01, z00]) | (refine EvC.reg ?_; simp (config := { maxSteps := 2000000 }) (disch := first | omega | rfl) only [sB, Nat.reduceEqDiff, t20, t2, decl x1, decn x2]) | (refine EvC.condT ?_ ?_; simp (config := { maxSteps := 2000000 }) (disch := first | omega | rfl) only [sB, Nat.reduceEqDiff]; refine z03 ?_) | (refine EvC.condF ?_ ?_; simp (config := { maxSteps := 2000000 }) (disch := first | omega | rfl) only [sB, Nat.reduceEqDiff]; refine z03 ?_))
        exact ⟨_, _, rfl, (by simp only [sG, reduceCtorEq, t0] <;> rfl), (by simp only [sG, Nat.reduceEqDiff, t1] <;> rfl), (by simp only [sG, Nat.reduceEqDiff, t3] <;> rfl), (by simp only [sG, Nat.reduceEqDiff, t4] <;> rfl), (by simp only [sG, Nat.reduceEqDiff, t18] <;> rfl), (by simp only [sG, Nat.reduceEqDiff, t20] <;> rfl), (by simp only [sG, Nat.reduceEqDiff] <;> rfl), hno fun h => x2 h.2, hk1⟩
    · repeat' (first | refine EvC.seq ?_ | refine EvC.scope ?_ | refine EvC.block ?_ | (refine EvC.skip ?_; try simp only [true_and]) | (refine EvC.exit ?_) | (refine EvC.ret ?_; try simp only [z01, z00]) | (refine EvC.reg ?_; simp (config := { maxSteps := 2000000 }) (disch := first | omega | rfl) only [sB, Nat.reduceEqDiff, t20, t2, decn x1, Bool.false_eq_true]) | (refine EvC.condT ?_ ?_; simp (config := { maxSteps := 2000000 }) (disch := first | omega | rfl) only [sB, Nat.reduceEqDiff]; refine z03 ?_) | (refine EvC.condF ?_ ?_; simp (config := { maxSteps := 2000000 }) (disch := first | omega | rfl) only [sB, Nat.reduceEqDiff]; refine z03 ?_))
      exact ⟨_, _, rfl, (by simp only [sG, reduceCtorEq, t0] <;> rfl), (by simp only [sG, Nat.reduceEqDiff, t1] <;> rfl), (by simp only [sG, Nat.reduceEqDiff, t3] <;> rfl), (by simp only [sG, Nat.reduceEqDiff, t4] <;> rfl), (by simp only [sG, Nat.reduceEqDiff, t18] <;> rfl), (by simp only [sG, Nat.reduceEqDiff, t20] <;> rfl), (by simp only [sG, Nat.reduceEqDiff] <;> rfl), hno fun h => x1 h.1, hk1⟩
  clear t0 t1 t2 t3 t4 t18 t19 t20
  rintro st ⟨tm, H2, rfl, t0, t1, t3, t4, t18, t20, t24, hr2, hk2⟩
  have hG2 := mv.good h3 hG
  generalize rotF s m en D = D1 at *
  refine EvC.cut (fun st => ∃ tm H3 D2, st = ⟨tm, [], H3⟩ ∧ tm.get 0 = some (.slice (some ⟨b, 0, none⟩) n c) ∧ tm.get 3 = some (.int .i64 (e : Nat)) ∧ tm.get 4 = some (cvF g) ∧
    tm.get 18 = some (.int .i64 (md : Nat)) ∧ tm.get 24 = some (.int .i64 (en : Nat)) ∧ RowE H3 26 b n D2 ∧ Mv G cmp a md D1 D2 ∧ InO cmp a md D2 ∧ HK (· = b) H H3) ?_ ?_
  · have hno : ¬(a < s ∧ s < md) → InO cmp a md D1 := fun x => by
      rcases (by omega : s = a ∨ s = md) with h | h
      · rw [← h]; exact o2
      · rw [← h]; exact o1
    by_cases x1 : a < s
    · by_cases x2 : s < md
      · repeat' (first | refine EvC.seq ?_ | refine EvC.scope ?_ | refine EvC.block ?_ | (refine EvC.skip ?_) | (refine EvC.exit ?_) | (refine EvC.ret ?_; try simp only [z01, z00]) | (refine EvC.reg ?_; simp (config := { maxSteps := 2000000 }) (disch := first | omega | rfl) only [sB, Nat.reduceEqDiff, reduceCtorEq, zit, t0, t1, t4, t18, t20, decl x1, decl x2]) | (refine EvC.condT ?_ ?_; simp (config := { maxSteps := 2000000 }) (disch := first | omega | rfl) only [sB, Nat.reduceEqDiff]; refine z03 ?_))
        refine (ih hN2 (C.at hk2) hr2 hG2 x1 x2 (by omega) o1 o2 hk2.wf).mono ?_
        rintro v H3 ⟨D2, hr3, m2, i2, hk3⟩
        repeat' (first | refine EvC.seq ?_ | refine EvC.scope ?_ | refine EvC.block ?_ | (refine EvC.skip ?_) | (refine EvC.exit ?_) | (refine EvC.ret ?_; try simp only [z01, z00]))
        exact ⟨_, _, D2, rfl, (by simp only [sG, reduceCtorEq, t0] <;> rfl), (by simp only [sG, Nat.reduceEqDiff, t3] <;> rfl), (by simp only [sG, Nat.reduceEqDiff, t4] <;> rfl), (by simp only [sG, Nat.reduceEqDiff, t18] <;> rfl), (by simp only [sG, Nat.reduceEqDiff, t24] <;> rfl), hr3, m2, i2, hk2.trans hk3⟩
      · repeat' (first | refine EvC.seq ?_ | refine EvC.scope ?_ | refine EvC.block ?_ | (refine EvC.skip ?_; try simp only [true_and]) | (refine EvC.exit ?_) | (refine EvC.ret ?_; try simp only [z01, z00]) | (refine EvC.reg ?_; simp (config := { maxSteps := 2000000 }) (disch := first | omega | rfl) only [sB, Nat.reduceEqDiff, t20, t1, t18, decl x1, decn x2]) | (refine EvC.condT ?_ ?_; simp (config := { maxSteps := 2000000 }) (disch := first | omega | rfl) only [sB, Nat.reduceEqDiff]; refine z03 ?_) | (refine EvC.condF ?_ ?_; simp (config := { maxSteps := 2000000 }) (disch := first | omega | rfl) only [sB, Nat.reduceEqDiff]; refine z03 ?_))
        exact ⟨_, _, D1, rfl, (by simp only [sG, reduceCtorEq, t0] <;> rfl), (by simp only [sG, Nat.reduceEqDiff, t3] <;> rfl), (by simp only [sG, Nat.reduceEqDiff, t4] <;> rfl), (by simp only [sG, Nat.reduceEqDiff, t18] <;> rfl), (by simp only [sG, Nat.reduceEqDiff, t24] <;> rfl), hr2, Mv.refl D1, hno fun h => x2 h.2, hk2⟩
    · repeat' (first | refine EvC.seq ?_ | refine EvC.scope ?_ | refine EvC.block ?_ | (refine EvC.skip ?_; try simp only [true_and]) | (refine EvC.exit ?_) | (refine EvC.ret ?_; try simp only [z01, z00]) | (refine EvC.reg ?_; simp (config := { maxSteps := 2000000 }) (disch := first | omega | rfl) only [sB, Nat.reduceEqDiff, t20, t1, decn x1, Bool.false_eq_true]) | (refine EvC.condT ?_ ?_; simp (config := { maxSteps := 2000000 }) (disch := first | omega | rfl) only [sB, Nat.reduceEqDiff]; refine z03 ?_) | (refine EvC.condF ?_ ?_; simp (config := { maxSteps := 2000000 }) (disch := first | omega | rfl) only [sB, Nat.reduceEqDiff]; refine z03 ?_))
      exact ⟨_, _, D1, rfl, (by simp only [sG, reduceCtorEq, t0] <;> rfl), (by simp only [sG, Nat.reduceEqDiff, t3] <;> rfl), (by simp only [sG, Nat.reduceEqDiff, t4] <;> rfl), (by simp only [sG, Nat.reduceEqDiff, t18] <;> rfl), (by simp only [sG, Nat.reduceEqDiff, t24] <;> rfl), hr2, Mv.refl D1, hno fun h => x1 h.1, hk2⟩
  rintro st ⟨tm, H3, D2, rfl, t0, t3, t4, t18, t24, hr3, m2, i2, hk3⟩
  have hG3 := m2.good (n := n) (by omega) hG2
  have o3' : InO cmp md en D2 := fun p q p1 p2 p3 => by rw [m2.out p (by omega), m2.out q (by omega)]; exact o3 p q p1 p2 p3
  have o4' : InO cmp en e D2 := fun p q p1 p2 p3 => by rw [m2.out p (by omega), m2.out q (by omega)]; exact o4 p q p1 p2 p3
  have hfin : ¬(md < en ∧ en < e) → InO cmp a e D2 := fun x => by
    refine InO.both hmid2 (by omega) m2 i2 (Mv.refl D2) ?_ ox
    rcases (by omega : en = md ∨ en = e) with h | h
    · rw [← h]; exact o4'
    · rw [← h]; exact o3'
  by_cases x1 : md < en
  · by_cases x2 : en < e
    · repeat' (first | refine EvC.seq ?_ | refine EvC.scope ?_ | refine EvC.block ?_ | (refine EvC.skip ?_) | (refine EvC.exit ?_) | (refine EvC.ret ?_; try simp only [z01, z00]) | (refine EvC.reg ?_; simp (config := { maxSteps := 2000000 }) (disch := first | omega | rfl) only [sB, Nat.reduceEqDiff, reduceCtorEq, zit, t0, t3, t4, t18, t24, decl x1, decl x2]) | (refine EvC.condT ?_ ?_; simp (config := { maxSteps := 2000000 }) (disch := first | omega | rfl) only [sB, Nat.reduceEqDiff]; refine z03 ?_))
      refine (ih hN3 (C.at hk3) hr3 hG3 x1 x2 (by omega) o3' o4' hk3.wf).mono ?_
      rintro v H4 ⟨D3, hr4, m3, i3, hk4⟩
      repeat' (first | refine EvC.seq ?_ | refine EvC.scope ?_ | refine EvC.block ?_ | (refine EvC.skip ?_) | (refine EvC.exit ?_) | (refine EvC.ret ?_; try simp only [z01, z00]))
      exact z0v rfl ⟨D3, hr4, mv.trans ((m2.wide (Nat.le_refl _) (by omega)).trans (m3.wide hmid2 (Nat.le_refl _))), InO.both hmid2 (by omega) m2 i2 m3 i3 ox, hk3.trans hk4⟩
    · repeat' (first | refine EvC.seq ?_ | refine EvC.scope ?_ | refine EvC.block ?_ | (refine EvC.skip ?_) | (refine EvC.exit ?_) | (refine EvC.ret ?_; try simp only [z01, z00]) | (refine EvC.reg ?_; simp (config := { maxSteps := 2000000 }) (disch := first | omega | rfl) only [sB, Nat.reduceEqDiff, t3, t18, t24, decl x1, decn x2]) | (refine EvC.condT ?_ ?_; simp (config := { maxSteps := 2000000 }) (disch := first | omega | rfl) only [sB, Nat.reduceEqDiff]; refine z03 ?_) | (refine EvC.condF ?_ ?_; simp (config := { maxSteps := 2000000 }) (disch := first | omega | rfl) only [sB, Nat.reduceEqDiff]; refine z03 ?_))
      exact z0v rfl ⟨D2, hr3, mv.trans (m2.wide (Nat.le_refl _) (by omega)), hfin fun h => x2 h.2, hk3⟩
  · repeat' (first | refine EvC.seq ?_ | refine EvC.scope ?_ | refine EvC.block ?_ | (refine EvC.skip ?_) | (refine EvC.exit ?_) | (refine EvC.ret ?_; try simp only [z01, z00]) | (refine EvC.reg ?_; simp (config := { maxSteps := 2000000 }) (disch := first | omega | rfl) only [sB, Nat.reduceEqDiff, t18, t24, decn x1, Bool.false_eq_true]) | (refine EvC.condT ?_ ?_; simp (config := { maxSteps := 2000000 }) (disch := first | omega | rfl) only [sB, Nat.reduceEqDiff]; refine z03 ?_) | (refine EvC.condF ?_ ?_; simp (config := { maxSteps := 2000000 }) (disch := first | omega | rfl) only [sB, Nat.reduceEqDiff]; refine z03 ?_))
    exact z0v rfl ⟨D2, hr3, mv.trans (m2.wide (Nat.le_refl _) (by omega)), hfin fun h => x1 h.1, hk3⟩
end Go.Proofs.YtlllbkjiadcloaaDoor.hb
end

-- So6
section
namespace Go.Proofs.YtlllbkjiadcloaaDoor.hb
open Go Go.RowKit Go.Hb
variable {ok : Ok}
set_option maxRecDepth 10000
attribute [local irreducible] LX LG EL STG SOP SGO SGD SAL SRD SEF SEG SLK SCK ES
theorem kbs {j bs : Nat} : 2 * j * bs = j * (2 * bs) := by rw [Nat.mul_comm 2 j, Nat.mul_assoc]
set_option maxHeartbeats 16000000 in
theorem zhf {b n c : Nat} {g : FuncId} {G : El → Prop} {cmp : El → El → Int} {D : Nat → El} {H : Heap} (hn : n ≤ most) (C : Cmps g H b G cmp) (hr : RowE H 26 b n D) (hG : ∀ k, k < n → G (D k)) (hw : H.wf) :
    EvF Tryd.prog okT 96 [.slice (some ⟨b, 0, none⟩) n c, .int .i64 (n : Nat), cvF g] H fun _ H' =>
      ∃ D', RowE H' 26 b n D' ∧ Mv G cmp 0 n D D' ∧ InO cmp 0 n D' ∧ HK (· = b) H H' := by
  have hms : most ≤ 1048576 := by simp [most]
  refine EvF.enter rfl Tryd.func96 (by decide) rfl ?_
  (repeat refine EvC.seq ?_); refine EvC.reg ?_; simp (config := { maxSteps := 2000000 }) (disch := first | omega | rfl) only [sA, initTm, Nat.reduceAdd]
  (repeat refine EvC.seq ?_); refine EvC.reg ?_; simp (config := { maxSteps := 2000000 }) (disch := first | omega | rfl) only [sB, Nat.reduceEqDiff, reduceCtorEq]
  refine EvC.cut (fun st => ∃ tm H' j D', st = ⟨tm, [], H'⟩ ∧ j * 20 ≤ n ∧ n < j * 20 + 20 ∧ tm.get 0 = some (.slice (some ⟨b, 0, none⟩) n c) ∧ tm.get 1 = some (.int .i64 (n : Nat)) ∧ tm.get 2 = some (cvF g) ∧ tm.get 6 = some (.int .i64 ((20 : Nat) : Int)) ∧ tm.get 7 = some (.int .i64 ((j * 20 : Nat) : Int)) ∧
    RowE H' 26 b n D' ∧ Mv G cmp 0 n D D' ∧ (∀ k, k < j → InO cmp (k * 20) (k * 20 + 20) D') ∧ HK (· = b) H H') ?_ ?_
  · refine EvC.block (EvC.loop (fun k st => ∃ tm H' j D', st = ⟨tm, [], H'⟩ ∧ k = n - j * 20 ∧ j * 20 ≤ n ∧ tm.get 0 = some (.slice (some ⟨b, 0, none⟩) n c) ∧ tm.get 1 = some (.int .i64 (n : Nat)) ∧ tm.get 2 = some (cvF g) ∧ tm.get 6 = some (.int .i64 ((20 : Nat) : Int)) ∧ tm.get 7 = some (.int .i64 ((j * 20 : Nat) : Int)) ∧ tm.get 8 = some (.int .i64 ((j * 20 + 20 : Nat) : Int)) ∧
      RowE H' 26 b n D' ∧ Mv G cmp 0 n D D' ∧ (∀ k, k < j → InO cmp (k * 20) (k * 20 + 20) D') ∧ HK (· = b) H H') ?_ n _ ?_)
    · rintro k st ⟨tm, H', j, D', rfl, rfl, hj, t0, t1, t2, t6, t7, t8, hr', hm, ho, hk⟩
      by_cases hlt : j * 20 + 20 ≤ n
      · have hd : decide (((j * 20 + 20 : Nat) : Int) ≤ (n : Int)) = true := decide_eq_true (by omega)
        have hs : IntKind.i64.wrap (((j * 20 + 20 : Nat) : Int) + ((20 : Nat) : Int)) = (((j + 1) * 20 + 20 : Nat) : Int) := by rw [z06 (by omega) (by omega)]; omega
        have he : ((j * 20 + 20 : Nat) : Int) = (((j + 1) * 20 : Nat) : Int) := by omega
        repeat' (first | refine EvC.seq ?_ | refine EvC.scope ?_ | refine EvC.block ?_ | (refine EvC.skip ?_; try simp only [z02]) | (refine EvC.exit ?_) | (refine EvC.ret ?_; try simp only [z01, z00]) | (refine EvC.reg ?_; simp (config := { maxSteps := 2000000 }) (disch := first | omega | rfl) only [sB, Nat.reduceEqDiff, reduceCtorEq, zmw, t0, t1, t2, t7, t8, hd]) | (refine EvC.condT ?_ ?_; simp (config := { maxSteps := 2000000 }) (disch := first | omega | rfl) only [sB, Nat.reduceEqDiff]; refine z03 ?_))
        refine (z5p (C.at hk) hr' hn (hm.good (n := n) (Nat.le_refl _) hG) (by omega) hlt hk.wf).mono ?_
        rintro v H2 ⟨D2, hr2, m2, o2, hk2⟩
        repeat' (first | refine EvC.seq ?_ | refine EvC.scope ?_ | refine EvC.block ?_ | (refine EvC.skip ?_) | (refine EvC.exit ?_) | (refine EvC.ret ?_; try simp only [z01, z00]) | (refine EvC.reg ?_; simp (config := { maxSteps := 2000000 }) (disch := first | omega | rfl) only [sB, Nat.reduceEqDiff, t6, t8, hs]))
        refine ⟨n - (j + 1) * 20, by omega, _, _, j + 1, D2, rfl, rfl, by omega, (by simp only [sG, reduceCtorEq, t0] <;> rfl), (by simp only [sG, Nat.reduceEqDiff, t1] <;> rfl), (by simp only [sG, Nat.reduceEqDiff, t2] <;> rfl), (by simp only [sG, Nat.reduceEqDiff, t6] <;> rfl), by rw [← he]; first | (simp only [sG, Nat.reduceEqDiff]; rfl) | simp only [sG, Nat.reduceEqDiff], (by simp only [sG, Nat.reduceEqDiff] <;> rfl), hr2, hm.trans (m2.wide (by omega) hlt), fun k hkj p q p1 p2 p3 => ?_, hk.trans hk2⟩
        by_cases e1 : k = j
        · subst e1; exact o2 p q p1 p2 p3
        · rw [m2.out p (by omega), m2.out q (by omega)]; exact ho k (by omega) p q p1 p2 p3
      · have hd : decide (((j * 20 + 20 : Nat) : Int) ≤ (n : Int)) = false := decide_eq_false (by omega)
        repeat' (first | refine EvC.seq ?_ | refine EvC.scope ?_ | refine EvC.block ?_ | (refine EvC.skip ?_) | (refine EvC.exit ?_; try simp only [sB, reduceCtorEq]) | (refine EvC.ret ?_; try simp only [z01, z00]) | (refine EvC.reg ?_; simp (config := { maxSteps := 2000000 }) (disch := first | omega | rfl) only [sB, Nat.reduceEqDiff, t1, t8, hd]) | (refine EvC.condT ?_ ?_; simp (config := { maxSteps := 2000000 }) (disch := first | omega | rfl) only [sB, Nat.reduceEqDiff]; refine z03 ?_) | (refine EvC.condF ?_ ?_; simp (config := { maxSteps := 2000000 }) (disch := first | omega | rfl) only [sB, Nat.reduceEqDiff]; refine z03 ?_))
        exact ⟨_, _, j, D', rfl, hj, by omega, (by simp only [sG, reduceCtorEq, t0] <;> rfl), (by simp only [sG, Nat.reduceEqDiff, t1] <;> rfl), (by simp only [sG, Nat.reduceEqDiff, t2] <;> rfl), (by simp only [sG, Nat.reduceEqDiff, t6] <;> rfl), (by simp only [sG, Nat.reduceEqDiff, t7] <;> rfl), hr', hm, ho, hk⟩
    · exact ⟨_, _, 0, D, rfl, by omega, by omega, (by simp only [sG, reduceCtorEq] <;> rfl), (by simp only [sG, Nat.reduceEqDiff, reduceCtorEq] <;> rfl), (by simp only [sG, Nat.reduceEqDiff, reduceCtorEq] <;> rfl), (by simp only [sB, Nat.reduceEqDiff, reduceCtorEq] <;> rfl), (by simp only [sB, Nat.reduceEqDiff, reduceCtorEq] <;> rfl), (by simp only [sB, Nat.reduceEqDiff, reduceCtorEq] <;> rfl), hr, Mv.refl D, fun k hk => by omega, HK.refl hw⟩
  rintro st ⟨tm, H1, j, D1, rfl, hj, hj2, t0, t1, t2, t6, t7, hr1, hm1, ho1, hk1⟩
  (repeat refine EvC.seq ?_); refine EvC.reg ?_; simp (config := { maxSteps := 2000000 }) (disch := first | omega | rfl) only [sB, Nat.reduceEqDiff, zmw, t0, t1, t2, t7]
  refine (z5p (C.at hk1) hr1 hn (hm1.good (n := n) (Nat.le_refl _) hG) hj (Nat.le_refl _) hk1.wf).mono ?_
  rintro v H2 ⟨D2, hr2, m2, o2, hk2⟩
  try simp (config := { maxSteps := 2000000 }) (disch := first | omega | rfl) only []
  refine EvC.block (EvC.loop (fun k st => ∃ tm H' bs D', st = ⟨tm, [], H'⟩ ∧ k = n - bs ∧ 0 < bs ∧ bs < 2097152 ∧ tm.get 0 = some (.slice (some ⟨b, 0, none⟩) n c) ∧ tm.get 1 = some (.int .i64 (n : Nat)) ∧ tm.get 2 = some (cvF g) ∧ tm.get 6 = some (.int .i64 (bs : Nat)) ∧
      RowE H' 26 b n D' ∧ Mv G cmp 0 n D D' ∧ (∀ k, InO cmp (k * bs) (min (k * bs + bs) n) D') ∧ HK (· = b) H H') ?_ (n - 20) _ ?_)
  · rintro k st ⟨tm, H', bs, D', rfl, rfl, hbs, hbs2, t0, t1, t2, t6, hr', hm, ho, hk⟩
    have hG' := hm.good (n := n) (Nat.le_refl _) hG
    by_cases hlt : bs < n
    · have hm2 : IntKind.i64.wrap (2 * (bs : Int)) = ((2 * bs : Nat) : Int) := by rw [z06 (by omega) (by omega)]; omega
      have hm3 : IntKind.i64.wrap ((bs : Int) * 2) = ((2 * bs : Nat) : Int) := by rw [z06 (by omega) (by omega)]; omega
      (repeat refine EvC.seq ?_); refine EvC.reg ?_; simp (config := { maxSteps := 2000000 }) (disch := first | omega | rfl) only [sB, Nat.reduceEqDiff, t6, t1, decl hlt]
      (repeat refine EvC.seq ?_); refine EvC.condT (by simp (config := { maxSteps := 2000000 }) (disch := first | omega | rfl) only [sB, Nat.reduceEqDiff]) ?_; (try refine EvC.skip ?_); (try simp only [z02, z0a])
      (try refine EvC.seq ?_)
      refine EvC.block ?_
      (repeat refine EvC.seq ?_); refine EvC.reg ?_; simp (config := { maxSteps := 2000000 }) (disch := first | omega | rfl) only [sB, Nat.reduceEqDiff, t6, hm2]
      refine EvC.cut (fun st => ∃ tm H' j A D', st = ⟨tm, [], H'⟩ ∧ A = j * (2 * bs) ∧ A ≤ n ∧ n < A + 2 * bs ∧ tm.get 0 = some (.slice (some ⟨b, 0, none⟩) n c) ∧ tm.get 1 = some (.int .i64 (n : Nat)) ∧ tm.get 2 = some (cvF g) ∧ tm.get 6 = some (.int .i64 (bs : Nat)) ∧ tm.get 7 = some (.int .i64 (A : Nat)) ∧
        RowE H' 26 b n D' ∧ Mv G cmp 0 n D D' ∧ (∀ k, k < j → InO cmp (k * (2 * bs)) (k * (2 * bs) + 2 * bs) D') ∧ (∀ k, 2 * j ≤ k → InO cmp (k * bs) (min (k * bs + bs) n) D') ∧ HK (· = b) H H') ?_ ?_
      · refine EvC.block (EvC.loop (fun k st => ∃ tm H' j A D', st = ⟨tm, [], H'⟩ ∧ A = j * (2 * bs) ∧ k = n - A ∧ A ≤ n ∧ tm.get 0 = some (.slice (some ⟨b, 0, none⟩) n c) ∧ tm.get 1 = some (.int .i64 (n : Nat)) ∧ tm.get 2 = some (cvF g) ∧ tm.get 6 = some (.int .i64 (bs : Nat)) ∧ tm.get 7 = some (.int .i64 (A : Nat)) ∧ tm.get 8 = some (.int .i64 ((A + 2 * bs : Nat) : Int)) ∧
          RowE H' 26 b n D' ∧ Mv G cmp 0 n D D' ∧ (∀ k, k < j → InO cmp (k * (2 * bs)) (k * (2 * bs) + 2 * bs) D') ∧ (∀ k, 2 * j ≤ k → InO cmp (k * bs) (min (k * bs + bs) n) D') ∧ HK (· = b) H H') ?_ n _ ?_)
        · rintro k st ⟨tm, H', j, A, D', rfl, hA, rfl, hAn, t0, t1, t2, t6, t7, t8, hr', hm, ho1, ho2, hk⟩
          have hAs : (j + 1) * (2 * bs) = A + 2 * bs := by rw [Nat.succ_mul, hA]
          by_cases hle : A + 2 * bs ≤ n
          · have hd : decide (((A + 2 * bs : Nat) : Int) ≤ (n : Int)) = true := decide_eq_true (by omega)
            have hs1 : IntKind.i64.wrap ((A : Int) + (bs : Int)) = ((A + bs : Nat) : Int) := by rw [z06 (by omega) (by omega)]; omega
            have hs2 : IntKind.i64.wrap (((A + 2 * bs : Nat) : Int) + ((2 * bs : Nat) : Int)) = ((A + 2 * bs + 2 * bs : Nat) : Int) := by rw [z06 (by omega) (by omega)]; omega
            have i1 : InO cmp A (A + bs) D' := by
              have := ho2 (2 * j) (Nat.le_refl _)
              rw [kbs, ← hA, Nat.min_eq_left (by omega)] at this; exact this
            have i2 : InO cmp (A + bs) (A + 2 * bs) D' := by
              have := ho2 (2 * j + 1) (by omega)
              rw [Nat.succ_mul, kbs, ← hA, Nat.min_eq_left (by omega), show A + bs + bs = A + 2 * bs by omega] at this; exact this
            repeat' (first | refine EvC.seq ?_ | refine EvC.scope ?_ | refine EvC.block ?_ | (refine EvC.skip ?_; try simp only [z02]) | (refine EvC.exit ?_) | (refine EvC.ret ?_; try simp only [z01, z00]) | (refine EvC.reg ?_; simp (config := { maxSteps := 2000000 }) (disch := first | omega | rfl) only [sB, Nat.reduceEqDiff, reduceCtorEq, zit, t0, t1, t2, t6, t7, t8, hd, hs1]) | (refine EvC.condT ?_ ?_; simp (config := { maxSteps := 2000000 }) (disch := first | omega | rfl) only [sB, Nat.reduceEqDiff]; refine z03 ?_))
            refine (z79 hn (2 * bs) (by omega) (C.at hk) hr' (hm.good (n := n) (Nat.le_refl _) hG) (by omega) (by omega) hle i1 i2 hk.wf).mono ?_
            rintro v H2 ⟨D2, hr2, m2, o2, hk2⟩
            repeat' (first | refine EvC.seq ?_ | refine EvC.scope ?_ | refine EvC.block ?_ | (refine EvC.skip ?_) | (refine EvC.exit ?_) | (refine EvC.ret ?_; try simp only [z01, z00]) | (refine EvC.reg ?_; simp (config := { maxSteps := 2000000 }) (disch := first | omega | rfl) only [sB, Nat.reduceEqDiff, t6, t8, hm2, hs2]))
            refine ⟨n - (A + 2 * bs), by omega, _, _, j + 1, A + 2 * bs, D2, rfl, hAs.symm, rfl, hle, (by simp only [sG, reduceCtorEq, t0] <;> rfl), (by simp only [sG, Nat.reduceEqDiff, t1] <;> rfl), (by simp only [sG, Nat.reduceEqDiff, t2] <;> rfl), (by simp only [sG, Nat.reduceEqDiff, t6] <;> rfl), (by simp only [sG, Nat.reduceEqDiff] <;> rfl), (by simp only [sG, Nat.reduceEqDiff] <;> rfl), hr2, hm.trans (m2.wide (Nat.zero_le _) hle), fun k hkj => ?_, fun k hkj => ?_, hk.trans hk2⟩
            · by_cases e1 : k = j
              · subst e1; rw [← hA]; exact o2
              · intro p q p1 p2 p3
                have hx := Nat.mul_le_mul_right (2 * bs) (show k + 1 ≤ j by omega)
                rw [Nat.succ_mul, ← hA] at hx
                rw [m2.out p (by omega), m2.out q (by omega)]; exact ho1 k (by omega) p q p1 p2 p3
            · intro p q p1 p2 p3
              have hx := Nat.mul_le_mul_right bs hkj
              rw [kbs, hAs] at hx
              rw [m2.out p (by omega), m2.out q (by omega)]; exact ho2 k (by omega) p q p1 p2 p3
          · have hd : decide (((A + 2 * bs : Nat) : Int) ≤ (n : Int)) = false := decide_eq_false (by omega)
            repeat' (first | refine EvC.seq ?_ | refine EvC.scope ?_ | refine EvC.block ?_ | (refine EvC.skip ?_) | (refine EvC.exit ?_; try simp only [sB, reduceCtorEq]) | (refine EvC.ret ?_; try simp only [z01, z00]) | (refine EvC.reg ?_; simp (config := { maxSteps := 2000000 }) (disch := first | omega | rfl) only [sB, Nat.reduceEqDiff, t1, t8, hd]) | (refine EvC.condT ?_ ?_; simp (config := { maxSteps := 2000000 }) (disch := first | omega | rfl) only [sB, Nat.reduceEqDiff]; refine z03 ?_) | (refine EvC.condF ?_ ?_; simp (config := { maxSteps := 2000000 }) (disch := first | omega | rfl) only [sB, Nat.reduceEqDiff]; refine z03 ?_))
            exact ⟨_, _, j, A, D', rfl, hA, hAn, by omega, (by simp only [sG, reduceCtorEq, t0] <;> rfl), (by simp only [sG, Nat.reduceEqDiff, t1] <;> rfl), (by simp only [sG, Nat.reduceEqDiff, t2] <;> rfl), (by simp only [sG, Nat.reduceEqDiff, t6] <;> rfl), (by simp only [sG, Nat.reduceEqDiff, t7] <;> rfl), hr', hm, ho1, ho2, hk⟩
        · exact ⟨_, _, 0, 0, D', rfl, (Nat.zero_mul _).symm, rfl, Nat.zero_le _, (by simp only [sG, reduceCtorEq, t0] <;> rfl), (by simp only [sG, Nat.reduceEqDiff, t1] <;> rfl), (by simp only [sG, Nat.reduceEqDiff, t2] <;> rfl), (by simp only [sG, Nat.reduceEqDiff, t6] <;> rfl), (by simp only [sB, Nat.reduceEqDiff] <;> rfl), by rw [Nat.zero_add]; first | (simp only [sG, Nat.reduceEqDiff]; rfl) | simp only [sG, Nat.reduceEqDiff], hr', hm, fun k hk => by omega, fun k _ => ho k, hk⟩
      rintro st ⟨tm, H3, j, A, D3, rfl, hA, hAn, hAn2, t0, t1, t2, t6, t7, hr3, hm3', ho1, ho2, hk3⟩
      have hs1 : IntKind.i64.wrap ((A : Int) + (bs : Int)) = ((A + bs : Nat) : Int) := by rw [z06 (by omega) (by omega)]; omega
      (repeat refine EvC.seq ?_); refine EvC.reg ?_; simp (config := { maxSteps := 2000000 }) (disch := first | omega | rfl) only [sB, Nat.reduceEqDiff, t6, t7, hs1]
      (repeat refine EvC.seq ?_); refine EvC.reg ?_; simp (config := { maxSteps := 2000000 }) (disch := first | omega | rfl) only [sB, Nat.reduceEqDiff, t1]
      refine EvC.meet (fun st => ∃ tm H' D', st = ⟨tm, [], H'⟩ ∧ tm.get 0 = some (.slice (some ⟨b, 0, none⟩) n c) ∧ tm.get 1 = some (.int .i64 (n : Nat)) ∧ tm.get 2 = some (cvF g) ∧ tm.get 6 = some (.int .i64 (bs : Nat)) ∧
        RowE H' 26 b n D' ∧ Mv G cmp 0 n D D' ∧ (∀ k, InO cmp (k * (2 * bs)) (min (k * (2 * bs) + 2 * bs) n) D') ∧ HK (· = b) H H') ?_ ?_
      · have hrest : ∀ D4 : Nat → El, Mv G cmp A n D3 D4 → InO cmp A n D4 → ∀ k, InO cmp (k * (2 * bs)) (min (k * (2 * bs) + 2 * bs) n) D4 := fun D4 m4 o4 k p q p1 p2 p3 => by
          by_cases e1 : k = j
          · subst e1; rw [← hA] at p1; exact o4 p q p1 p2 (by omega)
          · by_cases e2 : k < j
            · have hx := Nat.mul_le_mul_right (2 * bs) (show k + 1 ≤ j by omega)
              rw [Nat.succ_mul, ← hA] at hx
              rw [m4.out p (by omega), m4.out q (by omega)]; exact ho1 k e2 p q p1 p2 (by omega)
            · have hx := Nat.mul_le_mul_right (2 * bs) (show j + 1 ≤ k by omega)
              rw [Nat.succ_mul, ← hA] at hx
              omega
        have i1 := ho2 (2 * j) (Nat.le_refl _)
        rw [kbs, ← hA] at i1
        by_cases hx : A + bs < n
        · have i2 := ho2 (2 * j + 1) (by omega)
          rw [Nat.succ_mul, kbs, ← hA, Nat.min_eq_right (by omega)] at i2
          rw [Nat.min_eq_left (by omega)] at i1
          repeat' (first | refine EvC.seq ?_ | refine EvC.scope ?_ | refine EvC.block ?_ | (refine EvC.skip ?_) | (refine EvC.exit ?_) | (refine EvC.ret ?_; try simp only [z01, z00]) | (refine EvC.reg ?_; simp (config := { maxSteps := 2000000 }) (disch := first | omega | rfl) only [sB, Nat.reduceEqDiff, reduceCtorEq, zit, t0, t1, t2, t7, decl hx]) | (refine EvC.condT ?_ ?_; simp (config := { maxSteps := 2000000 }) (disch := first | omega | rfl) only [sB, Nat.reduceEqDiff, decl hx]; refine z03 ?_))
          refine (z79 hn (2 * bs) (by omega) (C.at hk3) hr3 (hm3'.good (n := n) (Nat.le_refl _) hG) (by omega) hx (Nat.le_refl _) i1 i2 hk3.wf).mono ?_
          rintro v H4 ⟨D4, hr4, m4, o4, hk4⟩
          repeat' (first | refine EvC.seq ?_ | refine EvC.scope ?_ | refine EvC.block ?_ | (refine EvC.skip ?_) | (refine EvC.exit ?_) | (refine EvC.ret ?_; try simp only [z01, z00]))
          exact ⟨_, _, D4, rfl, (by simp only [sG, reduceCtorEq, t0] <;> rfl), (by simp only [sG, Nat.reduceEqDiff, t1] <;> rfl), (by simp only [sG, Nat.reduceEqDiff, t2] <;> rfl), (by simp only [sG, Nat.reduceEqDiff, t6] <;> rfl), hr4, hm3'.trans (m4.wide (Nat.zero_le _) (Nat.le_refl _)), hrest D4 m4 o4, hk3.trans hk4⟩
        · rw [Nat.min_eq_right (by omega)] at i1
          repeat' (first | refine EvC.seq ?_ | refine EvC.scope ?_ | refine EvC.block ?_ | (refine EvC.skip ?_; try simp only [true_and, decn hx]) | (refine EvC.exit ?_) | (refine EvC.ret ?_; try simp only [z01, z00]) | (refine EvC.condT ?_ ?_; simp (config := { maxSteps := 2000000 }) (disch := first | omega | rfl) only [sB, Nat.reduceEqDiff, decn hx]; refine z03 ?_) | (refine EvC.condF ?_ ?_; simp (config := { maxSteps := 2000000 }) (disch := first | omega | rfl) only [sB, Nat.reduceEqDiff, decn hx]; refine z03 ?_))
          exact ⟨_, _, D3, rfl, (by simp only [sG, reduceCtorEq, t0] <;> rfl), (by simp only [sG, Nat.reduceEqDiff, t1] <;> rfl), (by simp only [sG, Nat.reduceEqDiff, t2] <;> rfl), (by simp only [sG, Nat.reduceEqDiff, t6] <;> rfl), hr3, hm3', hrest D3 (Mv.refl D3) i1, hk3⟩
      · rintro st ⟨tm, H4, D4, rfl, t0, t1, t2, t6, hr4, hm4, ho4, hk4⟩
        try simp (config := { maxSteps := 2000000 }) (disch := first | omega | rfl) only [z02]
        repeat' (first | refine EvC.seq ?_ | refine EvC.scope ?_ | refine EvC.block ?_ | (refine EvC.skip ?_) | (refine EvC.exit ?_) | (refine EvC.ret ?_; try simp only [z01, z00]) | (refine EvC.reg ?_; simp (config := { maxSteps := 2000000 }) (disch := first | omega | rfl) only [sB, Nat.reduceEqDiff, t6, hm3]))
        exact ⟨n - 2 * bs, by omega, _, _, 2 * bs, D4, rfl, rfl, by omega, by omega, (by simp only [sG, reduceCtorEq, t0] <;> rfl), (by simp only [sG, Nat.reduceEqDiff, t1] <;> rfl), (by simp only [sG, Nat.reduceEqDiff, t2] <;> rfl), (by simp only [sG, Nat.reduceEqDiff] <;> rfl), hr4, hm4, ho4, hk4⟩
    · repeat' (first | refine EvC.seq ?_ | refine EvC.scope ?_ | refine EvC.block ?_ | (refine EvC.skip ?_) | (refine EvC.exit ?_; try simp only [sB]) | (refine EvC.ret ?_; try simp only [z01, z00]) | (refine EvC.reg ?_; simp (config := { maxSteps := 2000000 }) (disch := first | omega | rfl) only [sB, Nat.reduceEqDiff, t6, t1, decn hlt]) | (refine EvC.condT ?_ ?_; simp (config := { maxSteps := 2000000 }) (disch := first | omega | rfl) only [sB, Nat.reduceEqDiff]; refine z03 ?_) | (refine EvC.condF ?_ ?_; simp (config := { maxSteps := 2000000 }) (disch := first | omega | rfl) only [sB, Nat.reduceEqDiff]; refine z03 ?_))
      have o0 := ho 0
      rw [Nat.zero_mul, Nat.zero_add, Nat.min_eq_right (by omega)] at o0
      exact z0v rfl ⟨D', hr', hm, o0, hk⟩
  · refine ⟨_, _, 20, D2, rfl, rfl, by omega, by omega, (by simp only [sG, reduceCtorEq, t0] <;> rfl), (by simp only [sG, Nat.reduceEqDiff, t1] <;> rfl), (by simp only [sG, Nat.reduceEqDiff, t2] <;> rfl), (by simp only [sG, Nat.reduceEqDiff, t6] <;> rfl), hr2, hm1.trans (m2.wide (Nat.zero_le _) (Nat.le_refl _)), fun k p q p1 p2 p3 => ?_, hk1.trans hk2⟩
    by_cases e1 : k = j
    · subst e1; exact o2 p q p1 p2 (by omega)
    · by_cases e2 : k < j
      · rw [m2.out p (by omega), m2.out q (by omega)]; exact ho1 k e2 p q p1 p2 (by omega)
      · omega
theorem z50 {b n c : Nat} {g : FuncId} {G : El → Prop} {cmp : El → El → Int} {D : Nat → El} {H : Heap} (hn : n ≤ most) (C : Cmps g H b G cmp) (hr : RowE H 26 b n D) (hG : ∀ k, k < n → G (D k)) (hw : H.wf) :
    EvF Tryd.prog okT 76 [.slice (some ⟨b, 0, none⟩) n c, cvF g] H fun _ H' =>
      ∃ D', RowE H' 26 b n D' ∧ Mv G cmp 0 n D D' ∧ InO cmp 0 n D' ∧ HK (· = b) H H' := by
  refine EvF.enter rfl Tryd.func76 (by decide) rfl ?_
  repeat' (first | refine EvC.seq ?_ | refine EvC.scope ?_ | refine EvC.block ?_ | (refine EvC.skip ?_) | (refine EvC.exit ?_) | (refine EvC.ret ?_; try simp only [z01, z00]) | (refine EvC.reg ?_; simp (config := { maxSteps := 2000000 }) (disch := first | omega | rfl) only [sB, initTm, Nat.reduceEqDiff, reduceCtorEq, ln24, cl96]))
  refine (zhf hn C hr hG hw).mono ?_
  rintro v H2 h
  repeat' (first | refine EvC.seq ?_ | refine EvC.scope ?_ | refine EvC.block ?_ | (refine EvC.skip ?_) | (refine EvC.exit ?_) | (refine EvC.ret ?_; try simp only [z01, z00]))
  exact z0v rfl h
end Go.Proofs.YtlllbkjiadcloaaDoor.hb
end

-- Z1
section
namespace Go.Proofs.YtlllbkjiadcloaaDoor.hb
open Go Go.RowKit Go.Hb
variable {ok : Ok}
set_option maxRecDepth 10000
attribute [local irreducible] LX LG EL STG SOP SGO SGD SAL SRD SEF SEG SLK SCK ES
def cmpZ (a b : Int) : Int := if a < b then -1 else if b < a then 1 else 0
def lessS (a b : ByteArray) : Bool := Op.bytesLess a.toList b.toList
def cmpS (a b : ByteArray) : Int := if lessS a b then -1 else if lessS b a then 1 else 0
theorem z8a : ∀ {a b : List UInt8}, Op.bytesLess a b = false → (a == b) = false → Op.bytesLess b a = true
  | [], [], _, h => by simp at h
  | [], _ :: _, h, _ => by simp [Op.bytesLess] at h
  | _ :: _, [], _, _ => by simp [Op.bytesLess]
  | x :: a, y :: b, h, e => by
      simp only [Op.bytesLess] at h ⊢
      rw [Bool.or_eq_false_iff] at h
      have h1 : ¬ x < y := of_decide_eq_false h.1
      by_cases hxy : x = y
      · subst hxy
        have h2 : Op.bytesLess a b = false := by simpa using h.2
        have e2 : (a == b) = false := by simpa using e
        rw [z8a h2 e2]; simp
      · have h3 : y < x := by
          rw [UInt8.lt_iff_toNat_lt] at h1 ⊢
          have : x.toNat ≠ y.toNat := fun q => hxy (UInt8.toNat_inj.1 q)
          omega
        simp [h3]
theorem z4c {a b : Int} (h : a < b) : cmpZ a b = -1 := by simp [cmpZ, h]
theorem z4d {a b : Int} (h : b < a) : cmpZ a b = 1 := by
  have : ¬ a < b := by omega
  simp [cmpZ, h, this]
theorem z4e {a b : Int} (h : a = b) : cmpZ a b = 0 := by subst h; simp [cmpZ]
theorem zhg {a b : ByteArray} (h : Op.bytesLess a.toList b.toList = true) : cmpS a b = -1 := by simp [cmpS, lessS, h]
theorem zhh {a b : ByteArray} (h : Op.bytesLess a.toList b.toList = false) (e : (a.toList == b.toList) = true) : cmpS a b = 0 := by
  have e' := beq_iff_eq.1 e
  rw [← e'] at h
  unfold cmpS lessS
  rw [← e', h]
  rfl
theorem zhi {a b : ByteArray} (h : Op.bytesLess a.toList b.toList = false) (e : (a.toList == b.toList) = false) : cmpS a b = 1 := by
  have := z8a h e
  unfold cmpS lessS
  rw [h, this]
  rfl
theorem zhj {a : Int} {H : Heap} : EvF Tryd.prog okT 99 [.int .i64 a] H fun v H' => v = .bool false ∧ H' = H := by
  refine EvF.enter rfl Tryd.func99 (by decide) rfl ?_
  repeat' (first | refine EvC.seq ?_ | refine EvC.scope ?_ | refine EvC.block ?_ | (refine EvC.skip ?_) | (refine EvC.exit ?_) | (refine EvC.ret ?_; try simp only [z01, z00]) | (refine EvC.reg ?_; simp (config := { maxSteps := 2000000 }) (disch := first | omega | rfl) only [sB, initTm, Nat.reduceEqDiff, reduceCtorEq, z10]))
  exact z04 rfl (by simp only [sG, Nat.reduceEqDiff, reduceCtorEq] <;> rfl) ⟨rfl, rfl⟩
theorem z7a {a b : Int} {H : Heap} : EvF Tryd.prog okT 83 [.int .i64 a, .int .i64 b] H fun v H' => v = .int .i64 (cmpZ a b) ∧ H' = H := by
  refine EvF.enter rfl Tryd.func83 (by decide) rfl ?_
  repeat' (first | refine EvC.seq ?_ | refine EvC.scope ?_ | refine EvC.block ?_ | (refine EvC.skip ?_) | (refine EvC.exit ?_) | (refine EvC.ret ?_; try simp only [z01, z00]) | (refine EvC.reg ?_; simp (config := { maxSteps := 2000000 }) (disch := first | omega | rfl) only [sB, initTm, Nat.reduceEqDiff, reduceCtorEq, cl99]))
  refine zhj.mono ?_
  rintro v H1 ⟨rfl, rfl⟩
  repeat' (first | refine EvC.seq ?_ | refine EvC.scope ?_ | refine EvC.block ?_ | (refine EvC.skip ?_) | (refine EvC.exit ?_) | (refine EvC.ret ?_; try simp only [z01, z00]) | (refine EvC.reg ?_; simp (config := { maxSteps := 2000000 }) (disch := first | omega | rfl) only [sB, Nat.reduceEqDiff, reduceCtorEq, cl99]))
  refine zhj.mono ?_
  rintro v H2 ⟨rfl, rfl⟩
  by_cases h1 : a < b
  · repeat' (first | refine EvC.seq ?_ | refine EvC.scope ?_ | refine EvC.block ?_ | (refine EvC.skip ?_; try simp only [z02]) | (refine EvC.exit ?_) | (refine EvC.ret ?_; try simp only [z01, z00]) | (refine EvC.reg ?_; simp (config := { maxSteps := 2000000 }) (disch := first | omega | rfl) only [sB, Nat.reduceEqDiff, reduceCtorEq, decide_eq_true]) | (refine EvC.condT ?_ ?_; simp (config := { maxSteps := 2000000 }) (disch := first | omega | rfl) only [sB, Nat.reduceEqDiff, reduceCtorEq]; refine z03 ?_) | (refine EvC.condF ?_ ?_; simp (config := { maxSteps := 2000000 }) (disch := first | omega | rfl) only [sB, Nat.reduceEqDiff, reduceCtorEq]; refine z03 ?_))
    exact z04 rfl (by simp only [sB, Nat.reduceEqDiff, reduceCtorEq] <;> rfl) ⟨by rw [z4c h1], rfl⟩
  · by_cases h2 : b < a
    · repeat' (first | refine EvC.seq ?_ | refine EvC.scope ?_ | refine EvC.block ?_ | (refine EvC.skip ?_; try simp only [z02]) | (refine EvC.exit ?_) | (refine EvC.ret ?_; try simp only [z01, z00]) | (refine EvC.reg ?_; simp (config := { maxSteps := 2000000 }) (disch := first | omega | rfl) only [sB, Nat.reduceEqDiff, reduceCtorEq, decide_eq_true, decide_eq_false]) | (refine EvC.condT ?_ ?_; simp (config := { maxSteps := 2000000 }) (disch := first | omega | rfl) only [sB, Nat.reduceEqDiff, reduceCtorEq]; refine z03 ?_) | (refine EvC.condF ?_ ?_; simp (config := { maxSteps := 2000000 }) (disch := first | omega | rfl) only [sB, Nat.reduceEqDiff, reduceCtorEq]; refine z03 ?_))
      exact z04 rfl (by simp only [sB, Nat.reduceEqDiff, reduceCtorEq] <;> rfl) ⟨by rw [z4d h2], rfl⟩
    · repeat' (first | refine EvC.seq ?_ | refine EvC.scope ?_ | refine EvC.block ?_ | (refine EvC.skip ?_; try simp only [z02]) | (refine EvC.exit ?_) | (refine EvC.ret ?_; try simp only [z01, z00]) | (refine EvC.reg ?_; simp (config := { maxSteps := 2000000 }) (disch := first | omega | rfl) only [sB, Nat.reduceEqDiff, reduceCtorEq, decide_eq_false]) | (refine EvC.condT ?_ ?_; simp (config := { maxSteps := 2000000 }) (disch := first | omega | rfl) only [sB, Nat.reduceEqDiff, reduceCtorEq]; refine z03 ?_) | (refine EvC.condF ?_ ?_; simp (config := { maxSteps := 2000000 }) (disch := first | omega | rfl) only [sB, Nat.reduceEqDiff, reduceCtorEq]; refine z03 ?_))
      exact z04 rfl (by simp only [sB, Nat.reduceEqDiff, reduceCtorEq] <;> rfl) ⟨by rw [z4e (by omega)], rfl⟩
theorem zhk {a : ByteArray} {H : Heap} : EvF Tryd.prog okT 110 [.string a] H fun v H' => v = .bool false ∧ H' = H := by
  refine EvF.enter rfl Tryd.func110 (by decide) rfl ?_
  have e : (a.toList == a.toList) = true := beq_self_eq_true _
  repeat' (first | refine EvC.seq ?_ | refine EvC.scope ?_ | refine EvC.block ?_ | (refine EvC.skip ?_) | (refine EvC.exit ?_) | (refine EvC.ret ?_; try simp only [z01, z00]) | (refine EvC.reg ?_; simp (config := { maxSteps := 2000000 }) (disch := first | omega | rfl) only [sB, initTm, Nat.reduceEqDiff, reduceCtorEq, z1g, e, Bool.not_true]))
  exact z04 rfl (by simp only [sG, Nat.reduceEqDiff, reduceCtorEq] <;> rfl) ⟨rfl, rfl⟩
theorem zcf {a b : ByteArray} {H : Heap} : EvF Tryd.prog okT 91 [.string a, .string b] H fun v H' => v = .int .i64 (cmpS a b) ∧ H' = H := by
  refine EvF.enter rfl Tryd.func91 (by decide) rfl ?_
  repeat' (first | refine EvC.seq ?_ | refine EvC.scope ?_ | refine EvC.block ?_ | (refine EvC.skip ?_) | (refine EvC.exit ?_) | (refine EvC.ret ?_; try simp only [z01, z00]) | (refine EvC.reg ?_; simp (config := { maxSteps := 2000000 }) (disch := first | omega | rfl) only [sB, initTm, Nat.reduceEqDiff, reduceCtorEq, zmv]))
  refine zhk.mono ?_
  rintro v H1 ⟨rfl, rfl⟩
  repeat' (first | refine EvC.seq ?_ | refine EvC.scope ?_ | refine EvC.block ?_ | (refine EvC.skip ?_) | (refine EvC.exit ?_) | (refine EvC.ret ?_; try simp only [z01, z00]) | (refine EvC.reg ?_; simp (config := { maxSteps := 2000000 }) (disch := first | omega | rfl) only [sB, Nat.reduceEqDiff, reduceCtorEq, zmv]))
  refine zhk.mono ?_
  rintro v H2 ⟨rfl, rfl⟩
  cases h1 : Op.bytesLess a.toList b.toList
  · cases h2 : a.toList == b.toList
    · repeat' (first | refine EvC.seq ?_ | refine EvC.scope ?_ | refine EvC.block ?_ | (refine EvC.skip ?_; try simp only [z02]) | (refine EvC.exit ?_) | (refine EvC.ret ?_; try simp only [z01, z00]) | (refine EvC.reg ?_; simp (config := { maxSteps := 2000000 }) (disch := first | omega | rfl) only [sB, Nat.reduceEqDiff, reduceCtorEq, zeu, zio, h1, h2, Bool.or_self, Bool.not_false]) | (refine EvC.condT ?_ ?_; simp (config := { maxSteps := 2000000 }) (disch := first | omega | rfl) only [sB, Nat.reduceEqDiff, reduceCtorEq]; refine z03 ?_) | (refine EvC.condF ?_ ?_; simp (config := { maxSteps := 2000000 }) (disch := first | omega | rfl) only [sB, Nat.reduceEqDiff, reduceCtorEq]; refine z03 ?_))
      exact z04 rfl (by simp only [sB, Nat.reduceEqDiff, reduceCtorEq] <;> rfl) ⟨by rw [zhi h1 h2], rfl⟩
    · repeat' (first | refine EvC.seq ?_ | refine EvC.scope ?_ | refine EvC.block ?_ | (refine EvC.skip ?_; try simp only [z02]) | (refine EvC.exit ?_) | (refine EvC.ret ?_; try simp only [z01, z00]) | (refine EvC.reg ?_; simp (config := { maxSteps := 2000000 }) (disch := first | omega | rfl) only [sB, Nat.reduceEqDiff, reduceCtorEq, zeu, zio, h1, h2, Bool.false_or, Bool.not_true]) | (refine EvC.condT ?_ ?_; simp (config := { maxSteps := 2000000 }) (disch := first | omega | rfl) only [sB, Nat.reduceEqDiff, reduceCtorEq]; refine z03 ?_) | (refine EvC.condF ?_ ?_; simp (config := { maxSteps := 2000000 }) (disch := first | omega | rfl) only [sB, Nat.reduceEqDiff, reduceCtorEq]; refine z03 ?_))
      exact z04 rfl (by simp only [sB, Nat.reduceEqDiff, reduceCtorEq] <;> rfl) ⟨by rw [zhh h1 h2], rfl⟩
  · repeat' (first | refine EvC.seq ?_ | refine EvC.scope ?_ | refine EvC.block ?_ | (refine EvC.skip ?_; try simp only [z02]) | (refine EvC.exit ?_) | (refine EvC.ret ?_; try simp only [z01, z00]) | (refine EvC.reg ?_; simp (config := { maxSteps := 2000000 }) (disch := first | omega | rfl) only [sB, Nat.reduceEqDiff, reduceCtorEq, zeu, h1]) | (refine EvC.condT ?_ ?_; simp (config := { maxSteps := 2000000 }) (disch := first | omega | rfl) only [sB, Nat.reduceEqDiff, reduceCtorEq]; refine z03 ?_) | (refine EvC.condF ?_ ?_; simp (config := { maxSteps := 2000000 }) (disch := first | omega | rfl) only [sB, Nat.reduceEqDiff, reduceCtorEq]; refine z03 ?_))
    exact z04 rfl (by simp only [sB, Nat.reduceEqDiff, reduceCtorEq] <;> rfl) ⟨by rw [zhg h1], rfl⟩
theorem z7b {a b : Int} {H : Heap} : EvF Tryd.prog okT 55 [.int .i64 a, .int .i64 b] H fun v H' => v = .int .i64 (cmpZ a b) ∧ H' = H := by
  refine EvF.enter rfl Tryd.func55 (by decide) rfl ?_
  by_cases h1 : a < b
  · repeat' (first | refine EvC.seq ?_ | refine EvC.scope ?_ | refine EvC.block ?_ | (refine EvC.skip ?_) | (refine EvC.exit ?_) | (refine EvC.ret ?_; try simp only [z01, z00]) | (refine EvC.reg ?_; simp (config := { maxSteps := 2000000 }) (disch := first | omega | rfl) only [sB, initTm, Nat.reduceEqDiff, reduceCtorEq, decide_eq_true]) | (refine EvC.condT ?_ ?_; simp (config := { maxSteps := 2000000 }) (disch := first | omega | rfl) only [sB, Nat.reduceEqDiff, reduceCtorEq]; refine z03 ?_))
    exact z04 rfl (by simp only [sB, Nat.reduceEqDiff, reduceCtorEq] <;> rfl) ⟨by rw [z4c h1], rfl⟩
  · by_cases h2 : b < a
    · repeat' (first | refine EvC.seq ?_ | refine EvC.scope ?_ | refine EvC.block ?_ | (refine EvC.skip ?_; try simp only [z02]) | (refine EvC.exit ?_) | (refine EvC.ret ?_; try simp only [z01, z00]) | (refine EvC.reg ?_; simp (config := { maxSteps := 2000000 }) (disch := first | omega | rfl) only [sB, initTm, Nat.reduceEqDiff, reduceCtorEq, decide_eq_true, decide_eq_false]) | (refine EvC.condT ?_ ?_; simp (config := { maxSteps := 2000000 }) (disch := first | omega | rfl) only [sB, Nat.reduceEqDiff, reduceCtorEq]; refine z03 ?_) | (refine EvC.condF ?_ ?_; simp (config := { maxSteps := 2000000 }) (disch := first | omega | rfl) only [sB, Nat.reduceEqDiff, reduceCtorEq]; refine z03 ?_))
      exact z04 rfl (by simp only [sB, Nat.reduceEqDiff, reduceCtorEq] <;> rfl) ⟨by rw [z4d h2], rfl⟩
    · repeat' (first | refine EvC.seq ?_ | refine EvC.scope ?_ | refine EvC.block ?_ | (refine EvC.skip ?_; try simp only [z02]) | (refine EvC.exit ?_) | (refine EvC.ret ?_; try simp only [z01, z00]) | (refine EvC.reg ?_; simp (config := { maxSteps := 2000000 }) (disch := first | omega | rfl) only [sB, initTm, Nat.reduceEqDiff, reduceCtorEq, decide_eq_false]) | (refine EvC.condT ?_ ?_; simp (config := { maxSteps := 2000000 }) (disch := first | omega | rfl) only [sB, Nat.reduceEqDiff, reduceCtorEq]; refine z03 ?_) | (refine EvC.condF ?_ ?_; simp (config := { maxSteps := 2000000 }) (disch := first | omega | rfl) only [sB, Nat.reduceEqDiff, reduceCtorEq]; refine z03 ?_))
      exact z04 rfl (by simp only [sB, Nat.reduceEqDiff, reduceCtorEq] <;> rfl) ⟨by rw [z4e (by omega)], rfl⟩
end Go.Proofs.YtlllbkjiadcloaaDoor.hb
end

-- Z2
section
namespace Go.Proofs.YtlllbkjiadcloaaDoor.hb
open Go Go.RowKit Go.Hb
variable {ok : Ok}
set_option maxRecDepth 10000
attribute [local irreducible] LX LG EL STG SOP SGO SGD SAL SRD SEF SEG SLK SCK ES
set_option maxHeartbeats 2000000 in
theorem zma {x y : Int} {c p : Nat} {H : Heap} (h0 : H.load ⟨p, 0, none⟩ 1 = some [.int .i64 x]) (h1 : H.load ⟨p, 1, none⟩ 1 = some [.int .i64 y]) :
    EvF Tryd.prog okT 90 [.slice (some ⟨p, 0, none⟩) 2 c] H fun v H' => v = .int .i64 (orZ x y) ∧ H' = H := by
  refine EvF.enter rfl Tryd.func90 (by decide) rfl ?_
  repeat' (first | refine EvC.seq ?_ | refine EvC.scope ?_ | refine EvC.block ?_ | (refine EvC.skip ?_) | (refine EvC.exit ?_) | (refine EvC.ret ?_; try simp only [z01, z00]) | (refine EvC.reg ?_; simp (config := { maxSteps := 2000000 }) (disch := first | omega | rfl) only [sB, initTm, Nat.reduceEqDiff, reduceCtorEq, ln46]))
  refine EvC.loop (fun k st => ∃ tm i, st = ⟨tm, [], H⟩ ∧ k = 2 - i ∧ i ≤ 2 ∧ (0 < i → x = 0) ∧ (1 < i → y = 0) ∧ tm.get 3 = some (.int .i64 0) ∧ tm.get 6 = some (.slice (some ⟨p, 0, none⟩) 2 c) ∧ tm.get 7 = some (.int .i64 (2 : Nat)) ∧ tm.get 8 = some (.int .i64 (i : Nat))) ?_ 2 _ ?_
  · rintro k st ⟨tm, i, rfl, rfl, hi, hx, hy, g3, g6, g7, g8⟩
    by_cases h2 : i = 2
    · subst h2
      repeat' (first | refine EvC.seq ?_ | refine EvC.scope ?_ | refine EvC.block ?_ | (refine EvC.skip ?_) | (refine EvC.exit ?_; try simp only [sB]) | (refine EvC.ret ?_; try simp only [z01, z00]) | (refine EvC.reg ?_; simp (config := { maxSteps := 2000000 }) (disch := first | omega | rfl) only [sB, Nat.reduceEqDiff, g3, g7, g8, decide_eq_false]) | (refine EvC.condT ?_ ?_; simp (config := { maxSteps := 2000000 }) (disch := first | omega | rfl) only [sB]; refine z03 ?_) | (refine EvC.condF ?_ ?_; simp (config := { maxSteps := 2000000 }) (disch := first | omega | rfl) only [sB]; refine z03 ?_))
      exact z04 rfl (by simp only [sB, Nat.reduceEqDiff] <;> rfl) ⟨by simp [orZ, hx, hy], rfl⟩
    · have hl : ∃ z, H.load ⟨p, i, none⟩ 1 = some [.int .i64 z] ∧ z = if i = 0 then x else y := by
        by_cases h0' : i = 0
        · subst h0'; exact ⟨x, h0, rfl⟩
        · have : i = 1 := by omega
          subst this; exact ⟨y, h1, rfl⟩
      obtain ⟨z, hl, hz⟩ := hl
      by_cases hz0 : z = 0
      · repeat' (first | refine EvC.seq ?_ | refine EvC.scope ?_ | refine EvC.block ?_ | (refine EvC.skip ?_; try simp only [sA]) | (refine EvC.exit ?_) | (refine EvC.ret ?_; try simp only [z01, z00]) | (refine EvC.reg ?_; simp (config := { maxSteps := 2000000 }) (disch := first | omega | rfl) only [sB, Nat.reduceEqDiff, ia46, ld3, g3, g6, g7, g8, hl, z10 hz0, decide_eq_true, z06]) | (refine EvC.condT ?_ ?_; simp (config := { maxSteps := 2000000 }) (disch := first | omega | rfl) only [sB, Nat.reduceEqDiff]; refine z03 ?_) | (refine EvC.condF ?_ ?_; simp (config := { maxSteps := 2000000 }) (disch := first | omega | rfl) only [sB, Nat.reduceEqDiff]; refine z03 ?_))
        exact ⟨2 - (i + 1), by omega, _, i + 1, rfl, rfl, by omega, fun _ => by
          by_cases h0' : i = 0
          · rw [hz, if_pos h0'] at hz0; exact hz0
          · exact hx (by omega), fun h => by
          rw [hz, if_neg (by omega)] at hz0; exact hz0, (by simp only [sG, Nat.reduceEqDiff, g3] <;> rfl), (by simp only [sG, Nat.reduceEqDiff, g6] <;> rfl), (by simp only [sG, Nat.reduceEqDiff, g7] <;> rfl), (by simp only [sB, Nat.reduceEqDiff] <;> rfl)⟩
      · repeat' (first | refine EvC.seq ?_ | refine EvC.scope ?_ | refine EvC.block ?_ | (refine EvC.skip ?_; try simp only [z02]) | (refine EvC.exit ?_) | (refine EvC.ret ?_; try simp only [z01, z00]) | (refine EvC.reg ?_; simp (config := { maxSteps := 2000000 }) (disch := first | omega | rfl) only [sB, Nat.reduceEqDiff, ia46, ld3, g3, g6, g7, g8, hl, z2x hz0, decide_eq_true]) | (refine EvC.condT ?_ ?_; simp (config := { maxSteps := 2000000 }) (disch := first | omega | rfl) only [sB, Nat.reduceEqDiff]; refine z03 ?_))
        refine z04 rfl (by simp only [sB, Nat.reduceEqDiff] <;> rfl) ⟨?_, rfl⟩
        by_cases h0' : i = 0
        · rw [if_pos h0'] at hz; subst hz; simp [orZ, hz0]
        · rw [if_neg h0'] at hz; subst hz; simp [orZ, hx (by omega)]
  · exact ⟨_, 0, rfl, rfl, by omega, by omega, by omega, (by simp only [sG, Nat.reduceEqDiff, reduceCtorEq] <;> rfl), (by simp only [sG, Nat.reduceEqDiff, reduceCtorEq] <;> rfl), (by simp only [sG, Nat.reduceEqDiff, reduceCtorEq] <;> rfl), (by simp only [sB, Nat.reduceEqDiff, reduceCtorEq] <;> rfl)⟩
def rankZ (k : Int) : Int := if k = 1 then 0 else if k = 4 then 1 else if k = 3 then 2 else if k = 2 then 3 else 4
theorem zhl {k : Int} {H : Heap} : EvF Tryd.prog okT 86 [.int .i64 k] H fun v H' => v = .int .i64 (rankZ k) ∧ H' = H := by
  refine EvF.enter rfl Tryd.func86 (by decide) rfl ?_
  by_cases h1 : k = 1
  · repeat' (first | refine EvC.seq ?_ | refine EvC.scope ?_ | refine EvC.block ?_ | (refine EvC.skip ?_) | (refine EvC.exit ?_) | (refine EvC.ret ?_; try simp only [z01, z00]) | (refine EvC.reg ?_; simp (config := { maxSteps := 2000000 }) (disch := first | omega | rfl) only [sB, initTm, Nat.reduceEqDiff, reduceCtorEq, z19 h1]) | (refine EvC.condT ?_ ?_; simp (config := { maxSteps := 2000000 }) (disch := first | omega | rfl) only [sB, Nat.reduceEqDiff, reduceCtorEq]; refine z03 ?_))
    exact z04 rfl (by simp only [sB, Nat.reduceEqDiff, reduceCtorEq] <;> rfl) ⟨by simp [rankZ, h1], rfl⟩
  by_cases h2 : k = 4
  · repeat' (first | refine EvC.seq ?_ | refine EvC.scope ?_ | refine EvC.block ?_ | (refine EvC.skip ?_) | (refine EvC.exit ?_) | (refine EvC.ret ?_; try simp only [z01, z00]) | (refine EvC.reg ?_; simp (config := { maxSteps := 2000000 }) (disch := first | omega | rfl) only [sB, initTm, Nat.reduceEqDiff, reduceCtorEq, z0i h1, z19 h2]) | (refine EvC.condT ?_ ?_; simp (config := { maxSteps := 2000000 }) (disch := first | omega | rfl) only [sB, Nat.reduceEqDiff, reduceCtorEq]; refine z03 ?_) | (refine EvC.condF ?_ ?_; simp (config := { maxSteps := 2000000 }) (disch := first | omega | rfl) only [sB, Nat.reduceEqDiff, reduceCtorEq]; refine z03 ?_))
    exact z04 rfl (by simp only [sB, Nat.reduceEqDiff, reduceCtorEq] <;> rfl) ⟨by simp [rankZ, h2], rfl⟩
  by_cases h3 : k = 3
  · repeat' (first | refine EvC.seq ?_ | refine EvC.scope ?_ | refine EvC.block ?_ | (refine EvC.skip ?_) | (refine EvC.exit ?_) | (refine EvC.ret ?_; try simp only [z01, z00]) | (refine EvC.reg ?_; simp (config := { maxSteps := 2000000 }) (disch := first | omega | rfl) only [sB, initTm, Nat.reduceEqDiff, reduceCtorEq, z0i h1, z0i h2, z19 h3]) | (refine EvC.condT ?_ ?_; simp (config := { maxSteps := 2000000 }) (disch := first | omega | rfl) only [sB, Nat.reduceEqDiff, reduceCtorEq]; refine z03 ?_) | (refine EvC.condF ?_ ?_; simp (config := { maxSteps := 2000000 }) (disch := first | omega | rfl) only [sB, Nat.reduceEqDiff, reduceCtorEq]; refine z03 ?_))
    exact z04 rfl (by simp only [sB, Nat.reduceEqDiff, reduceCtorEq] <;> rfl) ⟨by simp [rankZ, h3], rfl⟩
  by_cases h4 : k = 2
  · repeat' (first | refine EvC.seq ?_ | refine EvC.scope ?_ | refine EvC.block ?_ | (refine EvC.skip ?_) | (refine EvC.exit ?_) | (refine EvC.ret ?_; try simp only [z01, z00]) | (refine EvC.reg ?_; simp (config := { maxSteps := 2000000 }) (disch := first | omega | rfl) only [sB, initTm, Nat.reduceEqDiff, reduceCtorEq, z0i h1, z0i h2, z0i h3, z19 h4]) | (refine EvC.condT ?_ ?_; simp (config := { maxSteps := 2000000 }) (disch := first | omega | rfl) only [sB, Nat.reduceEqDiff, reduceCtorEq]; refine z03 ?_) | (refine EvC.condF ?_ ?_; simp (config := { maxSteps := 2000000 }) (disch := first | omega | rfl) only [sB, Nat.reduceEqDiff, reduceCtorEq]; refine z03 ?_))
    exact z04 rfl (by simp only [sB, Nat.reduceEqDiff, reduceCtorEq] <;> rfl) ⟨by simp [rankZ, h4], rfl⟩
  repeat' (first | refine EvC.seq ?_ | refine EvC.scope ?_ | refine EvC.block ?_ | (refine EvC.skip ?_; try simp only [sA]) | (refine EvC.exit ?_) | (refine EvC.ret ?_; try simp only [z01, z00]) | (refine EvC.reg ?_; simp (config := { maxSteps := 2000000 }) (disch := first | omega | rfl) only [sB, initTm, Nat.reduceEqDiff, reduceCtorEq, z0i h1, z0i h2, z0i h3, z0i h4]) | (refine EvC.condT ?_ ?_; simp (config := { maxSteps := 2000000 }) (disch := first | omega | rfl) only [sB, Nat.reduceEqDiff, reduceCtorEq]; refine z03 ?_) | (refine EvC.condF ?_ ?_; simp (config := { maxSteps := 2000000 }) (disch := first | omega | rfl) only [sB, Nat.reduceEqDiff, reduceCtorEq]; refine z03 ?_))
  exact z04 rfl (by simp only [sB, Nat.reduceEqDiff, reduceCtorEq] <;> rfl) ⟨by simp [rankZ, h1, h2, h3, h4], rfl⟩
theorem ze3 {k : Int} {H : Heap} : EvF Tryd.prog okT 56 [.int .i64 k] H fun v H' => v = .int .i64 (rankZ k) ∧ H' = H := by
  refine EvF.enter rfl Tryd.func56 (by decide) rfl ?_
  by_cases h1 : k = 1
  · repeat' (first | refine EvC.seq ?_ | refine EvC.scope ?_ | refine EvC.block ?_ | (refine EvC.skip ?_) | (refine EvC.exit ?_) | (refine EvC.ret ?_; try simp only [z01, z00]) | (refine EvC.reg ?_; simp (config := { maxSteps := 2000000 }) (disch := first | omega | rfl) only [sB, initTm, Nat.reduceEqDiff, reduceCtorEq, z19 h1]) | (refine EvC.condT ?_ ?_; simp (config := { maxSteps := 2000000 }) (disch := first | omega | rfl) only [sB, Nat.reduceEqDiff, reduceCtorEq]; refine z03 ?_))
    exact z04 rfl (by simp only [sB, Nat.reduceEqDiff, reduceCtorEq] <;> rfl) ⟨by simp [rankZ, h1], rfl⟩
  by_cases h2 : k = 4
  · repeat' (first | refine EvC.seq ?_ | refine EvC.scope ?_ | refine EvC.block ?_ | (refine EvC.skip ?_) | (refine EvC.exit ?_) | (refine EvC.ret ?_; try simp only [z01, z00]) | (refine EvC.reg ?_; simp (config := { maxSteps := 2000000 }) (disch := first | omega | rfl) only [sB, initTm, Nat.reduceEqDiff, reduceCtorEq, z0i h1, z19 h2]) | (refine EvC.condT ?_ ?_; simp (config := { maxSteps := 2000000 }) (disch := first | omega | rfl) only [sB, Nat.reduceEqDiff, reduceCtorEq]; refine z03 ?_) | (refine EvC.condF ?_ ?_; simp (config := { maxSteps := 2000000 }) (disch := first | omega | rfl) only [sB, Nat.reduceEqDiff, reduceCtorEq]; refine z03 ?_))
    exact z04 rfl (by simp only [sB, Nat.reduceEqDiff, reduceCtorEq] <;> rfl) ⟨by simp [rankZ, h2], rfl⟩
  by_cases h3 : k = 3
  · repeat' (first | refine EvC.seq ?_ | refine EvC.scope ?_ | refine EvC.block ?_ | (refine EvC.skip ?_) | (refine EvC.exit ?_) | (refine EvC.ret ?_; try simp only [z01, z00]) | (refine EvC.reg ?_; simp (config := { maxSteps := 2000000 }) (disch := first | omega | rfl) only [sB, initTm, Nat.reduceEqDiff, reduceCtorEq, z0i h1, z0i h2, z19 h3]) | (refine EvC.condT ?_ ?_; simp (config := { maxSteps := 2000000 }) (disch := first | omega | rfl) only [sB, Nat.reduceEqDiff, reduceCtorEq]; refine z03 ?_) | (refine EvC.condF ?_ ?_; simp (config := { maxSteps := 2000000 }) (disch := first | omega | rfl) only [sB, Nat.reduceEqDiff, reduceCtorEq]; refine z03 ?_))
    exact z04 rfl (by simp only [sB, Nat.reduceEqDiff, reduceCtorEq] <;> rfl) ⟨by simp [rankZ, h3], rfl⟩
  by_cases h4 : k = 2
  · repeat' (first | refine EvC.seq ?_ | refine EvC.scope ?_ | refine EvC.block ?_ | (refine EvC.skip ?_) | (refine EvC.exit ?_) | (refine EvC.ret ?_; try simp only [z01, z00]) | (refine EvC.reg ?_; simp (config := { maxSteps := 2000000 }) (disch := first | omega | rfl) only [sB, initTm, Nat.reduceEqDiff, reduceCtorEq, z0i h1, z0i h2, z0i h3, z19 h4]) | (refine EvC.condT ?_ ?_; simp (config := { maxSteps := 2000000 }) (disch := first | omega | rfl) only [sB, Nat.reduceEqDiff, reduceCtorEq]; refine z03 ?_) | (refine EvC.condF ?_ ?_; simp (config := { maxSteps := 2000000 }) (disch := first | omega | rfl) only [sB, Nat.reduceEqDiff, reduceCtorEq]; refine z03 ?_))
    exact z04 rfl (by simp only [sB, Nat.reduceEqDiff, reduceCtorEq] <;> rfl) ⟨by simp [rankZ, h4], rfl⟩
  repeat' (first | refine EvC.seq ?_ | refine EvC.scope ?_ | refine EvC.block ?_ | (refine EvC.skip ?_; try simp only [sA]) | (refine EvC.exit ?_) | (refine EvC.ret ?_; try simp only [z01, z00]) | (refine EvC.reg ?_; simp (config := { maxSteps := 2000000 }) (disch := first | omega | rfl) only [sB, initTm, Nat.reduceEqDiff, reduceCtorEq, z0i h1, z0i h2, z0i h3, z0i h4]) | (refine EvC.condT ?_ ?_; simp (config := { maxSteps := 2000000 }) (disch := first | omega | rfl) only [sB, Nat.reduceEqDiff, reduceCtorEq]; refine z03 ?_) | (refine EvC.condF ?_ ?_; simp (config := { maxSteps := 2000000 }) (disch := first | omega | rfl) only [sB, Nat.reduceEqDiff, reduceCtorEq]; refine z03 ?_))
  exact z04 rfl (by simp only [sB, Nat.reduceEqDiff, reduceCtorEq] <;> rfl) ⟨by simp [rankZ, h1, h2, h3, h4], rfl⟩
theorem z5z {a b : ByteArray} {H : Heap} : EvF Tryd.prog okT 59 [.string a, .string b] H fun v H' => v = .int .i64 (cmpS a b) ∧ H' = H := by
  refine EvF.enter rfl Tryd.func59 (by decide) rfl ?_
  cases h1 : Op.bytesLess a.toList b.toList
  · cases h2 : a.toList == b.toList
    · repeat' (first | refine EvC.seq ?_ | refine EvC.scope ?_ | refine EvC.block ?_ | (refine EvC.skip ?_; try simp only [z02]) | (refine EvC.exit ?_) | (refine EvC.ret ?_; try simp only [z01, z00]) | (refine EvC.reg ?_; simp (config := { maxSteps := 2000000 }) (disch := first | omega | rfl) only [sB, initTm, Nat.reduceEqDiff, reduceCtorEq, zeu, zio, h1, h2, Bool.or_self, Bool.not_false]) | (refine EvC.condT ?_ ?_; simp (config := { maxSteps := 2000000 }) (disch := first | omega | rfl) only [sB, Nat.reduceEqDiff, reduceCtorEq]; refine z03 ?_) | (refine EvC.condF ?_ ?_; simp (config := { maxSteps := 2000000 }) (disch := first | omega | rfl) only [sB, Nat.reduceEqDiff, reduceCtorEq]; refine z03 ?_))
      exact z04 rfl (by simp only [sB, Nat.reduceEqDiff, reduceCtorEq] <;> rfl) ⟨by rw [zhi h1 h2], rfl⟩
    · repeat' (first | refine EvC.seq ?_ | refine EvC.scope ?_ | refine EvC.block ?_ | (refine EvC.skip ?_; try simp only [z02]) | (refine EvC.exit ?_) | (refine EvC.ret ?_; try simp only [z01, z00]) | (refine EvC.reg ?_; simp (config := { maxSteps := 2000000 }) (disch := first | omega | rfl) only [sB, initTm, Nat.reduceEqDiff, reduceCtorEq, zeu, zio, h1, h2, Bool.false_or, Bool.not_true]) | (refine EvC.condT ?_ ?_; simp (config := { maxSteps := 2000000 }) (disch := first | omega | rfl) only [sB, Nat.reduceEqDiff, reduceCtorEq]; refine z03 ?_) | (refine EvC.condF ?_ ?_; simp (config := { maxSteps := 2000000 }) (disch := first | omega | rfl) only [sB, Nat.reduceEqDiff, reduceCtorEq]; refine z03 ?_))
      exact z04 rfl (by simp only [sB, Nat.reduceEqDiff, reduceCtorEq] <;> rfl) ⟨by rw [zhh h1 h2], rfl⟩
  · repeat' (first | refine EvC.seq ?_ | refine EvC.scope ?_ | refine EvC.block ?_ | (refine EvC.skip ?_) | (refine EvC.exit ?_) | (refine EvC.ret ?_; try simp only [z01, z00]) | (refine EvC.reg ?_; simp (config := { maxSteps := 2000000 }) (disch := first | omega | rfl) only [sB, initTm, Nat.reduceEqDiff, reduceCtorEq, zeu, h1]) | (refine EvC.condT ?_ ?_; simp (config := { maxSteps := 2000000 }) (disch := first | omega | rfl) only [sB, Nat.reduceEqDiff, reduceCtorEq]; refine z03 ?_))
    exact z04 rfl (by simp only [sB, Nat.reduceEqDiff, reduceCtorEq] <;> rfl) ⟨by rw [zhg h1], rfl⟩
end Go.Proofs.YtlllbkjiadcloaaDoor.hb
end

-- Z3
section
namespace Go.Proofs.YtlllbkjiadcloaaDoor.hb
open Go Go.RowKit Go.Hb
variable {ok : Ok}
set_option maxRecDepth 10000
attribute [local irreducible] LX LG EL STG SOP SGO SGD SAL SRD SEF SEG SLK SCK ES
def numZ (a b : ByteArray) : Int :=
  if negS (bl a) && !negS (bl b) then -1 else if negS (bl b) && !negS (bl a) then 1
  else if negS (bl a) then -(orZ (cmpZ a.size b.size) (cmpS a b)) else orZ (cmpZ a.size b.size) (cmpS a b)
theorem z1r (a b : Int) : -1 ≤ cmpZ a b ∧ cmpZ a b ≤ 1 := by
  unfold cmpZ; split
  · omega
  · split <;> omega
theorem z3u (a b : ByteArray) : -1 ≤ cmpS a b ∧ cmpS a b ≤ 1 := by
  unfold cmpS; split
  · omega
  · split <;> omega
theorem z51 {x y : Int} (h : -1 ≤ x ∧ x ≤ 1) (h' : -1 ≤ y ∧ y ≤ 1) : -1 ≤ orZ x y ∧ orZ x y ≤ 1 := by
  unfold orZ; split <;> assumption
theorem zmb {s : ByteArray} (h : 1 ≤ s.size) : ((s.extract 0 1).data.toList == (⟨#[45]⟩ : ByteArray).data.toList) = negS (bl s) := by
  rw [ByteArray.data_extract, Array.toList_extract, List.extract_eq_take_drop]
  unfold negS bl
  have hs : 1 ≤ s.data.toList.length := by simpa using h
  cases hh : s.data.toList with
  | nil => rw [hh] at hs; simp at hs
  | cons u l =>
    simp only [List.drop_zero, Nat.sub_zero, List.take_succ_cons, List.take_zero, List.map_cons, List.head?_cons]
    by_cases hu : u = 45
    · subst hu; rfl
    · have h1 : ([u] == ([45] : List UInt8)) = false := by simp [hu]
      have h2 : (some u.toNat == some 45) = false := by
        simp only [Option.some_beq_some]
        exact beq_eq_false_iff_ne.2 fun q => hu (UInt8.toNat_inj.1 q)
      exact h1.trans h2.symm
theorem zjl {s : ByteArray} (h : s.size = 0) : negS (bl s) = false := by
  have : s.data.toList = [] := List.length_eq_zero_iff.1 (by simpa using h)
  unfold negS bl; rw [this]; rfl
theorem zf4 {s : ByteArray} {H : Heap} (hs : s.size ≤ maxLen) : EvF Tryd.prog okT 129 [.string s, .string ⟨#[45]⟩] H fun v H' => v = .bool (negS (bl s)) ∧ H' = H := by
  have one : (⟨#[45]⟩ : ByteArray).size = 1 := rfl
  refine EvF.enter rfl Tryd.func129 (by decide) rfl ?_
  by_cases h : 1 ≤ s.size
  · have hsl : dSl Tryd.prog 9 (.string s) none (some (.int .i64 (1 : Nat))) none H = some (.val (.string (s.extract 0 1)) H) := zes (m := 1) us9 h
    repeat' (first | refine EvC.seq ?_ | refine EvC.scope ?_ | refine EvC.block ?_ | (refine EvC.skip ?_) | (refine EvC.exit ?_) | (refine EvC.ret ?_; try simp only [z01, z00]) | (refine EvC.reg ?_; simp (config := { maxSteps := 2000000 }) (disch := first | omega | rfl) only [sB, initTm, Nat.reduceEqDiff, reduceCtorEq, ln9, one, decide_eq_true, hsl, z6x, zmb h]))
    exact z04 rfl (by simp only [sG, Nat.reduceEqDiff, reduceCtorEq] <;> rfl) ⟨rfl, rfl⟩
  · repeat' (first | refine EvC.seq ?_ | refine EvC.scope ?_ | refine EvC.block ?_ | (refine EvC.skip ?_) | (refine EvC.exit ?_) | (refine EvC.ret ?_; try simp only [z01, z00]) | (refine EvC.reg ?_; simp (config := { maxSteps := 2000000 }) (disch := first | omega | rfl) only [sB, initTm, Nat.reduceEqDiff, reduceCtorEq, ln9, one, decide_eq_false]))
    exact z04 rfl (by simp only [sB, Nat.reduceEqDiff, reduceCtorEq] <;> rfl) ⟨by rw [zjl (by omega)], rfl⟩
theorem zb5 {s : ByteArray} {H : Heap} (hs : s.size ≤ maxLen) : EvF Tryd.prog okT 108 [.string s, .string ⟨#[45]⟩] H fun v H' => v = .bool (negS (bl s)) ∧ H' = H := by
  refine EvF.enter rfl Tryd.func108 (by decide) rfl ?_
  repeat' (first | refine EvC.seq ?_ | refine EvC.scope ?_ | refine EvC.block ?_ | (refine EvC.skip ?_) | (refine EvC.exit ?_) | (refine EvC.ret ?_; try simp only [z01, z00]) | (refine EvC.reg ?_; simp (config := { maxSteps := 2000000 }) (disch := first | omega | rfl) only [sB, initTm, Nat.reduceEqDiff, reduceCtorEq, zo1]))
  refine (zf4 hs).mono ?_
  rintro v H1 ⟨rfl, rfl⟩
  repeat' (first | refine EvC.seq ?_ | refine EvC.scope ?_ | refine EvC.block ?_ | (refine EvC.skip ?_) | (refine EvC.exit ?_) | (refine EvC.ret ?_; try simp only [z01, z00]))
  exact z04 rfl (by simp only [sG, Nat.reduceEqDiff, reduceCtorEq] <;> rfl) ⟨rfl, rfl⟩
end Go.Proofs.YtlllbkjiadcloaaDoor.hb
end

-- Z4
section
namespace Go.Proofs.YtlllbkjiadcloaaDoor.hb
open Go Go.RowKit Go.Hb
variable {ok : Ok}
set_option maxRecDepth 10000
attribute [local irreducible] LX LG EL STG SOP SGO SGD SAL SRD SEF SEG SLK SCK ES
theorem z52 {x y : Value} {ty : TypeId} {H : Heap} : (H.new (some (Blk.row [x, y] ty))).load ⟨H.next, 0, none⟩ 1 = some [x] ∧ (H.new (some (Blk.row [x, y] ty))).load ⟨H.next, 1, none⟩ 1 = some [y] := by
  constructor <;> simp only [Heap.load, Heap.cells, Heap.get_new, if_pos] <;> rfl
set_option maxHeartbeats 2000000 in
theorem zf5 {a b : ByteArray} {H : Heap} (ha : a.size ≤ maxLen) (hb : b.size ≤ maxLen) (hw : H.wf) : EvF Tryd.prog okT 87 [.string a, .string b] H fun v H' => v = .int .i64 (numZ a b) ∧ HX H H' := by
  refine EvF.enter rfl Tryd.func87 (by decide) rfl ?_
  repeat' (first | refine EvC.seq ?_ | refine EvC.scope ?_ | refine EvC.block ?_ | (refine EvC.skip ?_) | (refine EvC.exit ?_) | (refine EvC.ret ?_; try simp only [z01, z00]) | (refine EvC.reg ?_; simp (config := { maxSteps := 2000000 }) (disch := first | omega | rfl) only [sB, initTm, Nat.reduceEqDiff, reduceCtorEq, znv]))
  refine (zb5 ha).mono ?_
  rintro v H1 ⟨rfl, rfl⟩
  repeat' (first | refine EvC.seq ?_ | refine EvC.scope ?_ | refine EvC.block ?_ | (refine EvC.skip ?_) | (refine EvC.exit ?_) | (refine EvC.ret ?_; try simp only [z01, z00]))
  refine (zb5 hb).mono ?_
  rintro v H2 ⟨rfl, rfl⟩
  have hr := z51 (z1r a.size b.size) (z3u a b)
  cases hx : negS (bl a) <;> cases hy : negS (bl b)
  · repeat' (first | refine EvC.seq ?_ | refine EvC.scope ?_ | refine EvC.block ?_ | (refine EvC.skip ?_; try simp only [sA]) | (refine EvC.exit ?_) | (refine EvC.ret ?_; try simp only [z01, z00]) | (refine EvC.reg ?_; simp (config := { maxSteps := 2000000 }) (disch := first | omega | rfl) only [sB, Nat.reduceEqDiff, Nat.reduceAdd, Value.cells, reduceCtorEq, layC, ln9, cl83, cl91, zgi, Bool.false_eq_true]) | (refine EvC.condT ?_ ?_; simp (config := { maxSteps := 2000000 }) (disch := first | omega | rfl) only [sB, Nat.reduceEqDiff, reduceCtorEq]; refine z03 ?_) | (refine EvC.condF ?_ ?_; simp (config := { maxSteps := 2000000 }) (disch := first | omega | rfl) only [sB, Nat.reduceEqDiff, reduceCtorEq]; refine z03 ?_))
    refine z7a.mono ?_
    rintro v H1 ⟨rfl, rfl⟩
    repeat' (first | refine EvC.seq ?_ | refine EvC.scope ?_ | refine EvC.block ?_ | (refine EvC.skip ?_) | (refine EvC.exit ?_) | (refine EvC.ret ?_; try simp only [z01, z00]))
    refine zcf.mono ?_
    rintro v H1 ⟨rfl, rfl⟩
    repeat' (first | refine EvC.seq ?_ | refine EvC.scope ?_ | refine EvC.block ?_ | (refine EvC.skip ?_) | (refine EvC.exit ?_) | (refine EvC.ret ?_; try simp only [z01, z00]) | (refine z0z ?_; simp (config := { maxSteps := 2000000 }) (disch := first | omega | rfl) only [sB, Nat.reduceEqDiff, Nat.reduceAdd, one, reduceCtorEq, Nat.reduceLeDiff, cl90]))
    refine (zma z52.1 z52.2).mono ?_
    rintro v H3 ⟨rfl, rfl⟩
    repeat' (first | refine EvC.seq ?_ | refine EvC.scope ?_ | refine EvC.block ?_ | (refine EvC.skip ?_; try simp only [z02]) | (refine EvC.exit ?_) | (refine EvC.ret ?_; try simp only [z01, z00]) | (refine EvC.reg ?_; simp (config := { maxSteps := 2000000 }) (disch := first | omega | rfl) only [sB, Nat.reduceEqDiff, reduceCtorEq]) | (refine EvC.condT ?_ ?_; simp (config := { maxSteps := 2000000 }) (disch := first | omega | rfl) only [sB, Nat.reduceEqDiff, reduceCtorEq]; refine z03 ?_) | (refine EvC.condF ?_ ?_; simp (config := { maxSteps := 2000000 }) (disch := first | omega | rfl) only [sB, Nat.reduceEqDiff, reduceCtorEq]; refine z03 ?_))
    exact z04 rfl (by simp only [sB, Nat.reduceEqDiff, reduceCtorEq] <;> rfl) ⟨by simp [numZ, hx, hy], (HX.refl hw).new _⟩
  · repeat' (first | refine EvC.seq ?_ | refine EvC.scope ?_ | refine EvC.block ?_ | (refine EvC.skip ?_) | (refine EvC.exit ?_) | (refine EvC.ret ?_; try simp only [z01, z00]) | (refine EvC.reg ?_; simp (config := { maxSteps := 2000000 }) (disch := first | omega | rfl) only [sB, Nat.reduceEqDiff, reduceCtorEq, Bool.not_false, Bool.false_eq_true]) | (refine EvC.condT ?_ ?_; simp (config := { maxSteps := 2000000 }) (disch := first | omega | rfl) only [sB, Nat.reduceEqDiff, reduceCtorEq]; refine z03 ?_) | (refine EvC.condF ?_ ?_; simp (config := { maxSteps := 2000000 }) (disch := first | omega | rfl) only [sB, Nat.reduceEqDiff, reduceCtorEq]; refine z03 ?_))
    exact z04 rfl (by simp only [sB, Nat.reduceEqDiff, reduceCtorEq] <;> rfl) ⟨by simp [numZ, hx, hy], HX.refl hw⟩
  · repeat' (first | refine EvC.seq ?_ | refine EvC.scope ?_ | refine EvC.block ?_ | (refine EvC.skip ?_) | (refine EvC.exit ?_) | (refine EvC.ret ?_; try simp only [z01, z00]) | (refine EvC.reg ?_; simp (config := { maxSteps := 2000000 }) (disch := first | omega | rfl) only [sB, Nat.reduceEqDiff, reduceCtorEq, Bool.not_false]) | (refine EvC.condT ?_ ?_; simp (config := { maxSteps := 2000000 }) (disch := first | omega | rfl) only [sB, Nat.reduceEqDiff, reduceCtorEq]; refine z03 ?_))
    exact z04 rfl (by simp only [sB, Nat.reduceEqDiff, reduceCtorEq] <;> rfl) ⟨by simp [numZ, hx, hy], HX.refl hw⟩
  · repeat' (first | refine EvC.seq ?_ | refine EvC.scope ?_ | refine EvC.block ?_ | (refine EvC.skip ?_; try simp only [sA]) | (refine EvC.exit ?_) | (refine EvC.ret ?_; try simp only [z01, z00]) | (refine EvC.reg ?_; simp (config := { maxSteps := 2000000 }) (disch := first | omega | rfl) only [sB, Nat.reduceEqDiff, Nat.reduceAdd, Value.cells, reduceCtorEq, layC, ln9, cl83, cl91, zgi, Bool.not_true]) | (refine EvC.condT ?_ ?_; simp (config := { maxSteps := 2000000 }) (disch := first | omega | rfl) only [sB, Nat.reduceEqDiff, reduceCtorEq]; refine z03 ?_) | (refine EvC.condF ?_ ?_; simp (config := { maxSteps := 2000000 }) (disch := first | omega | rfl) only [sB, Nat.reduceEqDiff, reduceCtorEq]; refine z03 ?_))
    refine z7a.mono ?_
    rintro v H1 ⟨rfl, rfl⟩
    repeat' (first | refine EvC.seq ?_ | refine EvC.scope ?_ | refine EvC.block ?_ | (refine EvC.skip ?_) | (refine EvC.exit ?_) | (refine EvC.ret ?_; try simp only [z01, z00]))
    refine zcf.mono ?_
    rintro v H1 ⟨rfl, rfl⟩
    repeat' (first | refine EvC.seq ?_ | refine EvC.scope ?_ | refine EvC.block ?_ | (refine EvC.skip ?_) | (refine EvC.exit ?_) | (refine EvC.ret ?_; try simp only [z01, z00]) | (refine z0z ?_; simp (config := { maxSteps := 2000000 }) (disch := first | omega | rfl) only [sB, Nat.reduceEqDiff, Nat.reduceAdd, one, reduceCtorEq, Nat.reduceLeDiff, cl90]))
    refine (zma z52.1 z52.2).mono ?_
    rintro v H3 ⟨rfl, rfl⟩
    repeat' (first | refine EvC.seq ?_ | refine EvC.scope ?_ | refine EvC.block ?_ | (refine EvC.skip ?_) | (refine EvC.exit ?_) | (refine EvC.ret ?_; try simp only [z01, z00]) | (refine EvC.reg ?_; simp (config := { maxSteps := 2000000 }) (disch := first | omega | rfl) only [sB, Nat.reduceEqDiff, reduceCtorEq, zlg, z06]) | (refine EvC.condT ?_ ?_; simp (config := { maxSteps := 2000000 }) (disch := first | omega | rfl) only [sB, Nat.reduceEqDiff, reduceCtorEq]; refine z03 ?_))
    exact z04 rfl (by simp only [sB, Nat.reduceEqDiff, reduceCtorEq] <;> rfl) ⟨by simp [numZ, hx, hy], (HX.refl hw).new _⟩
end Go.Proofs.YtlllbkjiadcloaaDoor.hb
end

-- Z5
section
namespace Go.Proofs.YtlllbkjiadcloaaDoor.hb
open Go Go.RowKit Go.Hb
variable {ok : Ok}
set_option maxRecDepth 10000
attribute [local irreducible] LX LG EL STG SOP SGO SGD SAL SRD SEF SEG SLK SCK ES
theorem zb6 {s : ByteArray} (h : 1 ≤ s.size) : negS (bl s) = decide (byteAt s 0 = 45) := by
  have := z72 s (i := 0) (by omega)
  unfold negS
  rw [List.head?_eq_getElem?, this]
  by_cases e : byteAt s 0 = 45 <;> simp [e]
set_option maxHeartbeats 2000000 in
theorem zmc {a b : ByteArray} {H : Heap} (ha : a.size ≤ maxLen) (hb : b.size ≤ maxLen) (ha1 : 1 ≤ a.size) (hb1 : 1 ≤ b.size) : EvF Tryd.prog okT 57 [.string a, .string b] H fun v H' => v = .int .i64 (numZ a b) ∧ H' = H := by
  have n1 : (true != true) = false := rfl
  have n2 : (true != false) = true := rfl
  have n3 : (false != true) = true := rfl
  have n4 : (false != false) = false := rfl
  have hr := z51 (z1r a.size b.size) (z3u a b)
  have hx := zb6 ha1
  have hy := zb6 hb1
  refine EvF.enter rfl Tryd.func57 (by decide) rfl ?_
  by_cases h1 : byteAt a 0 = 45 <;> by_cases h2 : byteAt b 0 = 45
  · rw [decide_eq_true h1] at hx; rw [decide_eq_true h2] at hy
    repeat' (first | refine EvC.seq ?_ | refine EvC.scope ?_ | refine EvC.block ?_ | (refine EvC.skip ?_; try simp only [z02]) | (refine EvC.exit ?_) | (refine EvC.ret ?_; try simp only [z01, z00]) | (refine EvC.reg ?_; simp (config := { maxSteps := 2000000 }) (disch := first | omega | rfl) only [sB, initTm, Nat.reduceEqDiff, reduceCtorEq, Int.reduceToNat, ln9, cl55, iy9, z19, bNeB Tryd.underlying4, n1]) | (refine EvC.condT ?_ ?_; simp (config := { maxSteps := 2000000 }) (disch := first | omega | rfl) only [sB, Nat.reduceEqDiff, reduceCtorEq]; refine z03 ?_) | (refine EvC.condF ?_ ?_; simp (config := { maxSteps := 2000000 }) (disch := first | omega | rfl) only [sB, Nat.reduceEqDiff, reduceCtorEq]; refine z03 ?_))
    refine z7b.mono ?_
    rintro v H1 ⟨rfl, rfl⟩
    by_cases h0 : cmpZ a.size b.size = 0
    · repeat' (first | refine EvC.seq ?_ | refine EvC.scope ?_ | refine EvC.block ?_ | (refine EvC.skip ?_) | (refine EvC.exit ?_) | (refine EvC.ret ?_; try simp only [z01, z00]) | (refine EvC.reg ?_; simp (config := { maxSteps := 2000000 }) (disch := first | omega | rfl) only [sB, Nat.reduceEqDiff, reduceCtorEq, cl59, z19 h0]) | (refine EvC.condT ?_ ?_; simp (config := { maxSteps := 2000000 }) (disch := first | omega | rfl) only [sB, Nat.reduceEqDiff, reduceCtorEq]; refine z03 ?_))
      refine z5z.mono ?_
      rintro v H1 ⟨rfl, rfl⟩
      rw [orZ, if_pos h0] at hr
      repeat' (first | refine EvC.seq ?_ | refine EvC.scope ?_ | refine EvC.block ?_ | (refine EvC.skip ?_) | (refine EvC.exit ?_) | (refine EvC.ret ?_; try simp only [z01, z00]) | (refine EvC.reg ?_; simp (config := { maxSteps := 2000000 }) (disch := first | omega | rfl) only [sB, Nat.reduceEqDiff, reduceCtorEq, zlg, z06]) | (refine EvC.condT ?_ ?_; simp (config := { maxSteps := 2000000 }) (disch := first | omega | rfl) only [sB, Nat.reduceEqDiff, reduceCtorEq]; refine z03 ?_))
      exact z04 rfl (by simp only [sB, Nat.reduceEqDiff, reduceCtorEq] <;> rfl) ⟨by simp [numZ, hx, hy, orZ, h0], rfl⟩
    · rw [orZ, if_neg h0] at hr
      repeat' (first | refine EvC.seq ?_ | refine EvC.scope ?_ | refine EvC.block ?_ | (refine EvC.skip ?_; try simp only [z02]) | (refine EvC.exit ?_) | (refine EvC.ret ?_; try simp only [z01, z00]) | (refine EvC.reg ?_; simp (config := { maxSteps := 2000000 }) (disch := first | omega | rfl) only [sB, Nat.reduceEqDiff, reduceCtorEq, z0i h0, zlg, z06]) | (refine EvC.condT ?_ ?_; simp (config := { maxSteps := 2000000 }) (disch := first | omega | rfl) only [sB, Nat.reduceEqDiff, reduceCtorEq]; refine z03 ?_) | (refine EvC.condF ?_ ?_; simp (config := { maxSteps := 2000000 }) (disch := first | omega | rfl) only [sB, Nat.reduceEqDiff, reduceCtorEq]; refine z03 ?_))
      exact z04 rfl (by simp only [sB, Nat.reduceEqDiff, reduceCtorEq] <;> rfl) ⟨by simp [numZ, hx, hy, orZ, h0], rfl⟩
  · rw [decide_eq_true h1] at hx; rw [decide_eq_false h2] at hy
    repeat' (first | refine EvC.seq ?_ | refine EvC.scope ?_ | refine EvC.block ?_ | (refine EvC.skip ?_) | (refine EvC.exit ?_) | (refine EvC.ret ?_; try simp only [z01, z00]) | (refine EvC.reg ?_; simp (config := { maxSteps := 2000000 }) (disch := first | omega | rfl) only [sB, initTm, Nat.reduceEqDiff, reduceCtorEq, Int.reduceToNat, iy9, z19, z0i, bNeB Tryd.underlying4, n2]) | (refine EvC.condT ?_ ?_; simp (config := { maxSteps := 2000000 }) (disch := first | omega | rfl) only [sB, Nat.reduceEqDiff, reduceCtorEq]; refine z03 ?_))
    exact z04 rfl (by simp only [sB, Nat.reduceEqDiff, reduceCtorEq] <;> rfl) ⟨by simp [numZ, hx, hy], rfl⟩
  · rw [decide_eq_false h1] at hx; rw [decide_eq_true h2] at hy
    repeat' (first | refine EvC.seq ?_ | refine EvC.scope ?_ | refine EvC.block ?_ | (refine EvC.skip ?_; try simp only [z02]) | (refine EvC.exit ?_) | (refine EvC.ret ?_; try simp only [z01, z00]) | (refine EvC.reg ?_; simp (config := { maxSteps := 2000000 }) (disch := first | omega | rfl) only [sB, initTm, Nat.reduceEqDiff, reduceCtorEq, Int.reduceToNat, iy9, z19, z0i, bNeB Tryd.underlying4, n3]) | (refine EvC.condT ?_ ?_; simp (config := { maxSteps := 2000000 }) (disch := first | omega | rfl) only [sB, Nat.reduceEqDiff, reduceCtorEq]; refine z03 ?_) | (refine EvC.condF ?_ ?_; simp (config := { maxSteps := 2000000 }) (disch := first | omega | rfl) only [sB, Nat.reduceEqDiff, reduceCtorEq]; refine z03 ?_))
    exact z04 rfl (by simp only [sB, Nat.reduceEqDiff, reduceCtorEq] <;> rfl) ⟨by simp [numZ, hx, hy], rfl⟩
  · rw [decide_eq_false h1] at hx; rw [decide_eq_false h2] at hy
    repeat' (first | refine EvC.seq ?_ | refine EvC.scope ?_ | refine EvC.block ?_ | (refine EvC.skip ?_; try simp only [z02]) | (refine EvC.exit ?_) | (refine EvC.ret ?_; try simp only [z01, z00]) | (refine EvC.reg ?_; simp (config := { maxSteps := 2000000 }) (disch := first | omega | rfl) only [sB, initTm, Nat.reduceEqDiff, reduceCtorEq, Int.reduceToNat, ln9, cl55, iy9, z0i, bNeB Tryd.underlying4, n4]) | (refine EvC.condT ?_ ?_; simp (config := { maxSteps := 2000000 }) (disch := first | omega | rfl) only [sB, Nat.reduceEqDiff, reduceCtorEq]; refine z03 ?_) | (refine EvC.condF ?_ ?_; simp (config := { maxSteps := 2000000 }) (disch := first | omega | rfl) only [sB, Nat.reduceEqDiff, reduceCtorEq]; refine z03 ?_))
    refine z7b.mono ?_
    rintro v H1 ⟨rfl, rfl⟩
    by_cases h0 : cmpZ a.size b.size = 0
    · repeat' (first | refine EvC.seq ?_ | refine EvC.scope ?_ | refine EvC.block ?_ | (refine EvC.skip ?_) | (refine EvC.exit ?_) | (refine EvC.ret ?_; try simp only [z01, z00]) | (refine EvC.reg ?_; simp (config := { maxSteps := 2000000 }) (disch := first | omega | rfl) only [sB, Nat.reduceEqDiff, reduceCtorEq, cl59, z19 h0]) | (refine EvC.condT ?_ ?_; simp (config := { maxSteps := 2000000 }) (disch := first | omega | rfl) only [sB, Nat.reduceEqDiff, reduceCtorEq]; refine z03 ?_))
      refine z5z.mono ?_
      rintro v H1 ⟨rfl, rfl⟩
      repeat' (first | refine EvC.seq ?_ | refine EvC.scope ?_ | refine EvC.block ?_ | (refine EvC.skip ?_; try simp only [z02]) | (refine EvC.exit ?_) | (refine EvC.ret ?_; try simp only [z01, z00]) | (refine EvC.reg ?_; simp (config := { maxSteps := 2000000 }) (disch := first | omega | rfl) only [sB, Nat.reduceEqDiff, reduceCtorEq]) | (refine EvC.condT ?_ ?_; simp (config := { maxSteps := 2000000 }) (disch := first | omega | rfl) only [sB, Nat.reduceEqDiff, reduceCtorEq]; refine z03 ?_) | (refine EvC.condF ?_ ?_; simp (config := { maxSteps := 2000000 }) (disch := first | omega | rfl) only [sB, Nat.reduceEqDiff, reduceCtorEq]; refine z03 ?_))
      exact z04 rfl (by simp only [sB, Nat.reduceEqDiff, reduceCtorEq] <;> rfl) ⟨by simp [numZ, hx, hy, orZ, h0], rfl⟩
    · repeat' (first | refine EvC.seq ?_ | refine EvC.scope ?_ | refine EvC.block ?_ | (refine EvC.skip ?_; try simp only [z02]) | (refine EvC.exit ?_) | (refine EvC.ret ?_; try simp only [z01, z00]) | (refine EvC.reg ?_; simp (config := { maxSteps := 2000000 }) (disch := first | omega | rfl) only [sB, Nat.reduceEqDiff, reduceCtorEq, z0i h0]) | (refine EvC.condT ?_ ?_; simp (config := { maxSteps := 2000000 }) (disch := first | omega | rfl) only [sB, Nat.reduceEqDiff, reduceCtorEq]; refine z03 ?_) | (refine EvC.condF ?_ ?_; simp (config := { maxSteps := 2000000 }) (disch := first | omega | rfl) only [sB, Nat.reduceEqDiff, reduceCtorEq]; refine z03 ?_))
      exact z04 rfl (by simp only [sB, Nat.reduceEqDiff, reduceCtorEq] <;> rfl) ⟨by simp [numZ, hx, hy, orZ, h0], rfl⟩
end Go.Proofs.YtlllbkjiadcloaaDoor.hb
end

-- Z6
section
namespace Go.Proofs.YtlllbkjiadcloaaDoor.hb
open Go Go.RowKit Go.Hb
variable {ok : Ok}
set_option maxRecDepth 10000
attribute [local irreducible] LX LG EL STG SOP SGO SGD SAL SRD SEF SEG SLK SCK ES
def iOr (k : IntKind) (a b : Int) : Int := k.wrap (BitVec.ofInt k.bits a ||| BitVec.ofInt k.bits b).toNat
theorem zcg {P : Program} {H : Heap} {t : TypeId} {x y : Operand} {k : IntKind} {a b : Int} : dBin P .or t x y (.int k a) (.int k b) H = some (.val (.int k (iOr k a b)) H) := by
  simp [dBin, dnil, flat, eqGuard, binOp, Op.intBits, Sem.bind, -BitVec.toNat_or, -BitVec.toNat_ofInt]; rfl
def iNot (a : Int) : Int := IntKind.u64.wrap (BitVec.ofInt IntKind.u64.bits IntKind.u64.max ^^^ BitVec.ofInt IntKind.u64.bits a).toNat
theorem zch {P : Program} {H : Heap} {a : Int} : dUn P .xor (.int .u64 a) H = some (.val (.int .u64 (iNot a)) H) := by
  have e : Op.unary .xor (.int .u64 a) = (pure (.int .u64 (iNot a)) : Sem Value) := rfl
  unfold dUn
  rw [e]
  rfl
theorem zmd {q : Nat} (h : q < 18446744073709551616) : iNot (q : Int) = ((18446744073709551615 - q : Nat) : Int) := by
  show IntKind.u64.wrap (((BitVec.ofInt 64 18446744073709551615 : BitVec 64) ^^^ BitVec.ofInt 64 (q : Int)).toNat : Int) = _
  have e : ((BitVec.ofInt 64 18446744073709551615 : BitVec 64) ^^^ BitVec.ofInt 64 (q : Int)).toNat = 18446744073709551615 - q := by
    have h1 : (BitVec.ofInt 64 18446744073709551615 : BitVec 64) = BitVec.allOnes 64 := by decide
    have h2 : (BitVec.ofInt 64 (q : Int)).toNat = q := by
      rw [BitVec.ofInt_natCast, BitVec.toNat_ofNat]
      exact Nat.mod_eq_of_lt h
    rw [h1, BitVec.allOnes_xor, BitVec.toNat_not, h2]
  rw [e, z2o _ (by omega)]
theorem zno {q : Nat} (h : q < 9223372036854775808) : iOr .u64 (q : Int) 9223372036854775808 = ((q + 9223372036854775808 : Nat) : Int) := by
  unfold iOr
  have e : (BitVec.ofInt IntKind.u64.bits (q : Int) ||| BitVec.ofInt IntKind.u64.bits 9223372036854775808).toNat = q + 9223372036854775808 := by
    rw [BitVec.toNat_or]
    have h1 : (BitVec.ofInt IntKind.u64.bits (q : Int)).toNat = q := by
      rw [BitVec.ofInt_natCast, BitVec.toNat_ofNat]
      exact Nat.mod_eq_of_lt (Nat.lt_of_lt_of_le h (by decide))
    have h2 : (BitVec.ofInt IntKind.u64.bits 9223372036854775808).toNat = 9223372036854775808 := by decide +kernel
    rw [h1, h2, Nat.or_comm]
    have := Nat.two_pow_add_eq_or_of_lt (i := 63) (b := q) h 1
    rw [show (2 : Nat) ^ 63 * 1 = 9223372036854775808 from rfl] at this
    omega
  rw [e, z2o _ (by omega)]
def keyF (n : Int) : Int := if 9223372036854775808 ≤ n then 18446744073709551615 - n else n + 9223372036854775808
def fltZ (a b : Int) : Int := cmpZ (keyF a) (keyF b)
theorem znp : (2 : Int) ^ (min (63 : Int).toNat IntKind.u64.bits) = 9223372036854775808 := by rfl
theorem z60 {P : Program} {H : Heap} {t : TypeId} {x y : Operand} {q : Nat} (h : 9223372036854775808 ≤ q) (h' : q < 18446744073709551616) : dBin P .shr t x y (.int .u64 (q : Int)) (.int .u64 63) H = some (.val (.int .u64 1) H) := by
  rw [z5x (by omega), znp, Int.fdiv_eq_ediv_of_nonneg _ (by omega)]
  rw [show (q : Int) / 9223372036854775808 = 1 by omega]
theorem z61 {P : Program} {H : Heap} {t : TypeId} {x y : Operand} {q : Nat} (h : q < 9223372036854775808) : dBin P .shr t x y (.int .u64 (q : Int)) (.int .u64 63) H = some (.val (.int .u64 0) H) := by
  rw [z5x (by omega), znp, Int.fdiv_eq_ediv_of_nonneg _ (by omega)]
  rw [show (q : Int) / 9223372036854775808 = 0 by omega]
theorem z98 {q : Nat} (h : 9223372036854775808 ≤ q) (h' : q < 18446744073709551616) : iNot (q : Int) = keyF q := by
  rw [zmd h', keyF, if_pos (by omega)]; omega
theorem z99 {q : Nat} (h : q < 9223372036854775808) : iOr .u64 (q : Int) 9223372036854775808 = keyF q := by
  rw [zno h, keyF, if_neg (by omega)]; omega
set_option maxHeartbeats 2000000 in
theorem zme {a b : Nat} {H : Heap} (ha : a < 18446744073709551616) (hb : b < 18446744073709551616) : EvF Tryd.prog okT 58 [.int .u64 (a : Int), .int .u64 (b : Int)] H fun v H' => v = .int .i64 (fltZ a b) ∧ H' = H := by
  have n1 : ((1 : Int) == 1) = true := rfl
  have n0 : ((0 : Int) == 1) = false := rfl
  refine EvF.enter rfl Tryd.func58 (by decide) rfl ?_
  by_cases h1 : 9223372036854775808 ≤ a <;> by_cases h2 : 9223372036854775808 ≤ b
  · repeat' (first | refine EvC.seq ?_ | refine EvC.scope ?_ | refine EvC.block ?_ | (refine EvC.skip ?_) | (refine EvC.exit ?_) | (refine EvC.ret ?_; try simp only [z01, z00]) | (refine EvC.reg ?_; simp (config := { maxSteps := 2000000 }) (disch := first | omega | rfl) only [sB, initTm, Nat.reduceEqDiff, reduceCtorEq, z60 h1 ha, z60 h2 hb, n1, zch, z98 h1 ha, z98 h2 hb]) | (refine EvC.condT ?_ ?_; simp (config := { maxSteps := 2000000 }) (disch := first | omega | rfl) only [sB, Nat.reduceEqDiff, reduceCtorEq]; refine z03 ?_) | (refine EvC.condF ?_ ?_; simp (config := { maxSteps := 2000000 }) (disch := first | omega | rfl) only [sB, Nat.reduceEqDiff, reduceCtorEq]; refine z03 ?_))
    by_cases h3 : keyF a < keyF b
    · repeat' (first | refine EvC.seq ?_ | refine EvC.scope ?_ | refine EvC.block ?_ | (refine EvC.skip ?_) | (refine EvC.exit ?_) | (refine EvC.ret ?_; try simp only [z01, z00]) | (refine EvC.reg ?_; simp (config := { maxSteps := 2000000 }) (disch := first | omega | rfl) only [sA, decide_eq_true]) | (refine EvC.condT ?_ ?_; simp (config := { maxSteps := 2000000 }) (disch := first | omega | rfl) only [sB, Nat.reduceEqDiff, reduceCtorEq, decide_eq_true]; refine z03 ?_))
      exact z04 rfl (by simp only [sB, Nat.reduceEqDiff, reduceCtorEq] <;> rfl) ⟨by rw [fltZ, z4c h3], rfl⟩
    · by_cases h4 : keyF b < keyF a
      · repeat' (first | refine EvC.seq ?_ | refine EvC.scope ?_ | refine EvC.block ?_ | (refine EvC.skip ?_; try simp only [z02]) | (refine EvC.exit ?_) | (refine EvC.ret ?_; try simp only [z01, z00]) | (refine EvC.reg ?_; simp (config := { maxSteps := 2000000 }) (disch := first | omega | rfl) only [sB, Nat.reduceEqDiff, reduceCtorEq, decide_eq_true, decide_eq_false]) | (refine EvC.condT ?_ ?_; simp (config := { maxSteps := 2000000 }) (disch := first | omega | rfl) only [sB, Nat.reduceEqDiff, reduceCtorEq, decide_eq_false]; refine z03 ?_) | (refine EvC.condF ?_ ?_; simp (config := { maxSteps := 2000000 }) (disch := first | omega | rfl) only [sB, Nat.reduceEqDiff, reduceCtorEq, decide_eq_false]; refine z03 ?_))
        exact z04 rfl (by simp only [sB, Nat.reduceEqDiff, reduceCtorEq] <;> rfl) ⟨by rw [fltZ, z4d h4], rfl⟩
      · repeat' (first | refine EvC.seq ?_ | refine EvC.scope ?_ | refine EvC.block ?_ | (refine EvC.skip ?_; try simp only [z02]) | (refine EvC.exit ?_) | (refine EvC.ret ?_; try simp only [z01, z00]) | (refine EvC.reg ?_; simp (config := { maxSteps := 2000000 }) (disch := first | omega | rfl) only [sB, Nat.reduceEqDiff, reduceCtorEq, decide_eq_false]) | (refine EvC.condT ?_ ?_; simp (config := { maxSteps := 2000000 }) (disch := first | omega | rfl) only [sB, Nat.reduceEqDiff, reduceCtorEq, decide_eq_false]; refine z03 ?_) | (refine EvC.condF ?_ ?_; simp (config := { maxSteps := 2000000 }) (disch := first | omega | rfl) only [sB, Nat.reduceEqDiff, reduceCtorEq, decide_eq_false]; refine z03 ?_))
        exact z04 rfl (by simp only [sB, Nat.reduceEqDiff, reduceCtorEq] <;> rfl) ⟨by rw [fltZ, z4e (by omega)], rfl⟩
  · repeat' (first | refine EvC.seq ?_ | refine EvC.scope ?_ | refine EvC.block ?_ | (refine EvC.skip ?_) | (refine EvC.exit ?_) | (refine EvC.ret ?_; try simp only [z01, z00]) | (refine EvC.reg ?_; simp (config := { maxSteps := 2000000 }) (disch := first | omega | rfl) only [sB, initTm, Nat.reduceEqDiff, reduceCtorEq, z60 h1 ha, z61 (Nat.lt_of_not_le h2), n1, n0, zch, zcg, z98 h1 ha, z99 (Nat.lt_of_not_le h2)]) | (refine EvC.condT ?_ ?_; simp (config := { maxSteps := 2000000 }) (disch := first | omega | rfl) only [sB, Nat.reduceEqDiff, reduceCtorEq]; refine z03 ?_) | (refine EvC.condF ?_ ?_; simp (config := { maxSteps := 2000000 }) (disch := first | omega | rfl) only [sB, Nat.reduceEqDiff, reduceCtorEq]; refine z03 ?_))
    by_cases h3 : keyF a < keyF b
    · repeat' (first | refine EvC.seq ?_ | refine EvC.scope ?_ | refine EvC.block ?_ | (refine EvC.skip ?_) | (refine EvC.exit ?_) | (refine EvC.ret ?_; try simp only [z01, z00]) | (refine EvC.reg ?_; simp (config := { maxSteps := 2000000 }) (disch := first | omega | rfl) only [sA, decide_eq_true]) | (refine EvC.condT ?_ ?_; simp (config := { maxSteps := 2000000 }) (disch := first | omega | rfl) only [sB, Nat.reduceEqDiff, reduceCtorEq, decide_eq_true]; refine z03 ?_))
      exact z04 rfl (by simp only [sB, Nat.reduceEqDiff, reduceCtorEq] <;> rfl) ⟨by rw [fltZ, z4c h3], rfl⟩
    · by_cases h4 : keyF b < keyF a
      · repeat' (first | refine EvC.seq ?_ | refine EvC.scope ?_ | refine EvC.block ?_ | (refine EvC.skip ?_; try simp only [z02]) | (refine EvC.exit ?_) | (refine EvC.ret ?_; try simp only [z01, z00]) | (refine EvC.reg ?_; simp (config := { maxSteps := 2000000 }) (disch := first | omega | rfl) only [sB, Nat.reduceEqDiff, reduceCtorEq, decide_eq_true, decide_eq_false]) | (refine EvC.condT ?_ ?_; simp (config := { maxSteps := 2000000 }) (disch := first | omega | rfl) only [sB, Nat.reduceEqDiff, reduceCtorEq, decide_eq_false]; refine z03 ?_) | (refine EvC.condF ?_ ?_; simp (config := { maxSteps := 2000000 }) (disch := first | omega | rfl) only [sB, Nat.reduceEqDiff, reduceCtorEq, decide_eq_false]; refine z03 ?_))
        exact z04 rfl (by simp only [sB, Nat.reduceEqDiff, reduceCtorEq] <;> rfl) ⟨by rw [fltZ, z4d h4], rfl⟩
      · repeat' (first | refine EvC.seq ?_ | refine EvC.scope ?_ | refine EvC.block ?_ | (refine EvC.skip ?_; try simp only [z02]) | (refine EvC.exit ?_) | (refine EvC.ret ?_; try simp only [z01, z00]) | (refine EvC.reg ?_; simp (config := { maxSteps := 2000000 }) (disch := first | omega | rfl) only [sB, Nat.reduceEqDiff, reduceCtorEq, decide_eq_false]) | (refine EvC.condT ?_ ?_; simp (config := { maxSteps := 2000000 }) (disch := first | omega | rfl) only [sB, Nat.reduceEqDiff, reduceCtorEq, decide_eq_false]; refine z03 ?_) | (refine EvC.condF ?_ ?_; simp (config := { maxSteps := 2000000 }) (disch := first | omega | rfl) only [sB, Nat.reduceEqDiff, reduceCtorEq, decide_eq_false]; refine z03 ?_))
        exact z04 rfl (by simp only [sB, Nat.reduceEqDiff, reduceCtorEq] <;> rfl) ⟨by rw [fltZ, z4e (by omega)], rfl⟩
  · repeat' (first | refine EvC.seq ?_ | refine EvC.scope ?_ | refine EvC.block ?_ | (refine EvC.skip ?_) | (refine EvC.exit ?_) | (refine EvC.ret ?_; try simp only [z01, z00]) | (refine EvC.reg ?_; simp (config := { maxSteps := 2000000 }) (disch := first | omega | rfl) only [sB, initTm, Nat.reduceEqDiff, reduceCtorEq, z61 (Nat.lt_of_not_le h1), z60 h2 hb, n1, n0, zch, zcg, z99 (Nat.lt_of_not_le h1), z98 h2 hb]) | (refine EvC.condT ?_ ?_; simp (config := { maxSteps := 2000000 }) (disch := first | omega | rfl) only [sB, Nat.reduceEqDiff, reduceCtorEq]; refine z03 ?_) | (refine EvC.condF ?_ ?_; simp (config := { maxSteps := 2000000 }) (disch := first | omega | rfl) only [sB, Nat.reduceEqDiff, reduceCtorEq]; refine z03 ?_))
    by_cases h3 : keyF a < keyF b
    · repeat' (first | refine EvC.seq ?_ | refine EvC.scope ?_ | refine EvC.block ?_ | (refine EvC.skip ?_) | (refine EvC.exit ?_) | (refine EvC.ret ?_; try simp only [z01, z00]) | (refine EvC.reg ?_; simp (config := { maxSteps := 2000000 }) (disch := first | omega | rfl) only [sA, decide_eq_true]) | (refine EvC.condT ?_ ?_; simp (config := { maxSteps := 2000000 }) (disch := first | omega | rfl) only [sB, Nat.reduceEqDiff, reduceCtorEq, decide_eq_true]; refine z03 ?_))
      exact z04 rfl (by simp only [sB, Nat.reduceEqDiff, reduceCtorEq] <;> rfl) ⟨by rw [fltZ, z4c h3], rfl⟩
    · by_cases h4 : keyF b < keyF a
      · repeat' (first | refine EvC.seq ?_ | refine EvC.scope ?_ | refine EvC.block ?_ | (refine EvC.skip ?_; try simp only [z02]) | (refine EvC.exit ?_) | (refine EvC.ret ?_; try simp only [z01, z00]) | (refine EvC.reg ?_; simp (config := { maxSteps := 2000000 }) (disch := first | omega | rfl) only [sB, Nat.reduceEqDiff, reduceCtorEq, decide_eq_true, decide_eq_false]) | (refine EvC.condT ?_ ?_; simp (config := { maxSteps := 2000000 }) (disch := first | omega | rfl) only [sB, Nat.reduceEqDiff, reduceCtorEq, decide_eq_false]; refine z03 ?_) | (refine EvC.condF ?_ ?_; simp (config := { maxSteps := 2000000 }) (disch := first | omega | rfl) only [sB, Nat.reduceEqDiff, reduceCtorEq, decide_eq_false]; refine z03 ?_))
        exact z04 rfl (by simp only [sB, Nat.reduceEqDiff, reduceCtorEq] <;> rfl) ⟨by rw [fltZ, z4d h4], rfl⟩
      · repeat' (first | refine EvC.seq ?_ | refine EvC.scope ?_ | refine EvC.block ?_ | (refine EvC.skip ?_; try simp only [z02]) | (refine EvC.exit ?_) | (refine EvC.ret ?_; try simp only [z01, z00]) | (refine EvC.reg ?_; simp (config := { maxSteps := 2000000 }) (disch := first | omega | rfl) only [sB, Nat.reduceEqDiff, reduceCtorEq, decide_eq_false]) | (refine EvC.condT ?_ ?_; simp (config := { maxSteps := 2000000 }) (disch := first | omega | rfl) only [sB, Nat.reduceEqDiff, reduceCtorEq, decide_eq_false]; refine z03 ?_) | (refine EvC.condF ?_ ?_; simp (config := { maxSteps := 2000000 }) (disch := first | omega | rfl) only [sB, Nat.reduceEqDiff, reduceCtorEq, decide_eq_false]; refine z03 ?_))
        exact z04 rfl (by simp only [sB, Nat.reduceEqDiff, reduceCtorEq] <;> rfl) ⟨by rw [fltZ, z4e (by omega)], rfl⟩
  · repeat' (first | refine EvC.seq ?_ | refine EvC.scope ?_ | refine EvC.block ?_ | (refine EvC.skip ?_) | (refine EvC.exit ?_) | (refine EvC.ret ?_; try simp only [z01, z00]) | (refine EvC.reg ?_; simp (config := { maxSteps := 2000000 }) (disch := first | omega | rfl) only [sB, initTm, Nat.reduceEqDiff, reduceCtorEq, z61 (Nat.lt_of_not_le h1), z61 (Nat.lt_of_not_le h2), n0, zcg, z99 (Nat.lt_of_not_le h1), z99 (Nat.lt_of_not_le h2)]) | (refine EvC.condT ?_ ?_; simp (config := { maxSteps := 2000000 }) (disch := first | omega | rfl) only [sB, Nat.reduceEqDiff, reduceCtorEq]; refine z03 ?_) | (refine EvC.condF ?_ ?_; simp (config := { maxSteps := 2000000 }) (disch := first | omega | rfl) only [sB, Nat.reduceEqDiff, reduceCtorEq]; refine z03 ?_))
    by_cases h3 : keyF a < keyF b
    · repeat' (first | refine EvC.seq ?_ | refine EvC.scope ?_ | refine EvC.block ?_ | (refine EvC.skip ?_) | (refine EvC.exit ?_) | (refine EvC.ret ?_; try simp only [z01, z00]) | (refine EvC.reg ?_; simp (config := { maxSteps := 2000000 }) (disch := first | omega | rfl) only [sA, decide_eq_true]) | (refine EvC.condT ?_ ?_; simp (config := { maxSteps := 2000000 }) (disch := first | omega | rfl) only [sB, Nat.reduceEqDiff, reduceCtorEq, decide_eq_true]; refine z03 ?_))
      exact z04 rfl (by simp only [sB, Nat.reduceEqDiff, reduceCtorEq] <;> rfl) ⟨by rw [fltZ, z4c h3], rfl⟩
    · by_cases h4 : keyF b < keyF a
      · repeat' (first | refine EvC.seq ?_ | refine EvC.scope ?_ | refine EvC.block ?_ | (refine EvC.skip ?_; try simp only [z02]) | (refine EvC.exit ?_) | (refine EvC.ret ?_; try simp only [z01, z00]) | (refine EvC.reg ?_; simp (config := { maxSteps := 2000000 }) (disch := first | omega | rfl) only [sB, Nat.reduceEqDiff, reduceCtorEq, decide_eq_true, decide_eq_false]) | (refine EvC.condT ?_ ?_; simp (config := { maxSteps := 2000000 }) (disch := first | omega | rfl) only [sB, Nat.reduceEqDiff, reduceCtorEq, decide_eq_false]; refine z03 ?_) | (refine EvC.condF ?_ ?_; simp (config := { maxSteps := 2000000 }) (disch := first | omega | rfl) only [sB, Nat.reduceEqDiff, reduceCtorEq, decide_eq_false]; refine z03 ?_))
        exact z04 rfl (by simp only [sB, Nat.reduceEqDiff, reduceCtorEq] <;> rfl) ⟨by rw [fltZ, z4d h4], rfl⟩
      · repeat' (first | refine EvC.seq ?_ | refine EvC.scope ?_ | refine EvC.block ?_ | (refine EvC.skip ?_; try simp only [z02]) | (refine EvC.exit ?_) | (refine EvC.ret ?_; try simp only [z01, z00]) | (refine EvC.reg ?_; simp (config := { maxSteps := 2000000 }) (disch := first | omega | rfl) only [sB, Nat.reduceEqDiff, reduceCtorEq, decide_eq_false]) | (refine EvC.condT ?_ ?_; simp (config := { maxSteps := 2000000 }) (disch := first | omega | rfl) only [sB, Nat.reduceEqDiff, reduceCtorEq, decide_eq_false]; refine z03 ?_) | (refine EvC.condF ?_ ?_; simp (config := { maxSteps := 2000000 }) (disch := first | omega | rfl) only [sB, Nat.reduceEqDiff, reduceCtorEq, decide_eq_false]; refine z03 ?_))
        exact z04 rfl (by simp only [sB, Nat.reduceEqDiff, reduceCtorEq] <;> rfl) ⟨by rw [fltZ, z4e (by omega)], rfl⟩
end Go.Proofs.YtlllbkjiadcloaaDoor.hb
end

-- Z7
section
namespace Go.Proofs.YtlllbkjiadcloaaDoor.hb
open Go Go.RowKit Go.Hb
variable {ok : Ok}
set_option maxRecDepth 10000
attribute [local irreducible] LX LG EL STG SOP SGO SGD SAL SRD SEF SEG SLK SCK ES
theorem z7c {P : Program} {H : Heap} {t : TypeId} {x y : Operand} {k : FloatKind} {a b : Nat} : dBin P .lss t x y (.float k a) (.float k b) H = some (.val (.bool (k.format.order a b == some .lt)) H) := by
  simp [dBin, dnil, flat, eqGuard, binOp, Op.floatCmp, Sem.bind]; rfl
def ordF (a b : Nat) : Option Ordering := FloatKind.f64.format.order a b
def fltO (a b : Nat) : Int := if ordF a b == some .lt then -1 else if ordF a b == some .gt then 1 else 0
theorem zhm {a : Nat} {H : Heap} (h : (FloatKind.f64.format.order a a != some .eq) = false) : EvF Tryd.prog okT 109 [.float .f64 a] H fun v H' => v = .bool false ∧ H' = H := by
  refine EvF.enter rfl Tryd.func109 (by decide) rfl ?_
  repeat' (first | refine EvC.seq ?_ | refine EvC.scope ?_ | refine EvC.block ?_ | (refine EvC.skip ?_) | (refine EvC.exit ?_) | (refine EvC.ret ?_; try simp only [z01, z00]) | (refine EvC.reg ?_; simp (config := { maxSteps := 2000000 }) (disch := first | omega | rfl) only [sB, initTm, Nat.reduceEqDiff, reduceCtorEq, zax, h]))
  exact z04 rfl (by simp only [sG, Nat.reduceEqDiff, reduceCtorEq] <;> rfl) ⟨rfl, rfl⟩
theorem zmf {a b : Nat} {H : Heap} (ha : (FloatKind.f64.format.order a a != some .eq) = false) (hb : (FloatKind.f64.format.order b b != some .eq) = false) : EvF Tryd.prog okT 88 [.float .f64 a, .float .f64 b] H fun v H' => v = .int .i64 (fltO a b) ∧ H' = H := by
  refine EvF.enter rfl Tryd.func88 (by decide) rfl ?_
  repeat' (first | refine EvC.seq ?_ | refine EvC.scope ?_ | refine EvC.block ?_ | (refine EvC.skip ?_) | (refine EvC.exit ?_) | (refine EvC.ret ?_; try simp only [z01, z00]) | (refine EvC.reg ?_; simp (config := { maxSteps := 2000000 }) (disch := first | omega | rfl) only [sB, initTm, Nat.reduceEqDiff, reduceCtorEq, zmu]))
  refine (zhm ha).mono ?_
  rintro v H1 ⟨rfl, rfl⟩
  repeat' (first | refine EvC.seq ?_ | refine EvC.scope ?_ | refine EvC.block ?_ | (refine EvC.skip ?_) | (refine EvC.exit ?_) | (refine EvC.ret ?_; try simp only [z01, z00]) | (refine EvC.reg ?_; simp (config := { maxSteps := 2000000 }) (disch := first | omega | rfl) only [sB, Nat.reduceEqDiff, reduceCtorEq, zmu]))
  refine (zhm hb).mono ?_
  rintro v H2 ⟨rfl, rfl⟩
  have hl : FloatKind.f64.format.order a b = ordF a b := rfl
  cases h1 : (ordF a b == some .lt)
  · cases h2 : (ordF a b == some .gt)
    · repeat' (first | refine EvC.seq ?_ | refine EvC.scope ?_ | refine EvC.block ?_ | (refine EvC.skip ?_; try simp only [z02]) | (refine EvC.exit ?_) | (refine EvC.ret ?_; try simp only [z01, z00]) | (refine EvC.reg ?_; simp (config := { maxSteps := 2000000 }) (disch := first | omega | rfl) only [sB, Nat.reduceEqDiff, reduceCtorEq, z7c, z75, hl, h1, h2]) | (refine EvC.condT ?_ ?_; simp (config := { maxSteps := 2000000 }) (disch := first | omega | rfl) only [sB, Nat.reduceEqDiff, reduceCtorEq]; refine z03 ?_) | (refine EvC.condF ?_ ?_; simp (config := { maxSteps := 2000000 }) (disch := first | omega | rfl) only [sB, Nat.reduceEqDiff, reduceCtorEq]; refine z03 ?_))
      exact z04 rfl (by simp only [sB, Nat.reduceEqDiff, reduceCtorEq] <;> rfl) ⟨by simp [fltO, h1, h2], rfl⟩
    · repeat' (first | refine EvC.seq ?_ | refine EvC.scope ?_ | refine EvC.block ?_ | (refine EvC.skip ?_; try simp only [z02]) | (refine EvC.exit ?_) | (refine EvC.ret ?_; try simp only [z01, z00]) | (refine EvC.reg ?_; simp (config := { maxSteps := 2000000 }) (disch := first | omega | rfl) only [sB, Nat.reduceEqDiff, reduceCtorEq, z7c, z75, hl, h1, h2]) | (refine EvC.condT ?_ ?_; simp (config := { maxSteps := 2000000 }) (disch := first | omega | rfl) only [sB, Nat.reduceEqDiff, reduceCtorEq]; refine z03 ?_) | (refine EvC.condF ?_ ?_; simp (config := { maxSteps := 2000000 }) (disch := first | omega | rfl) only [sB, Nat.reduceEqDiff, reduceCtorEq]; refine z03 ?_))
      exact z04 rfl (by simp only [sB, Nat.reduceEqDiff, reduceCtorEq] <;> rfl) ⟨by simp [fltO, h1, h2], rfl⟩
  · repeat' (first | refine EvC.seq ?_ | refine EvC.scope ?_ | refine EvC.block ?_ | (refine EvC.skip ?_; try simp only [z02]) | (refine EvC.exit ?_) | (refine EvC.ret ?_; try simp only [z01, z00]) | (refine EvC.reg ?_; simp (config := { maxSteps := 2000000 }) (disch := first | omega | rfl) only [sB, Nat.reduceEqDiff, reduceCtorEq, z7c, hl, h1]) | (refine EvC.condT ?_ ?_; simp (config := { maxSteps := 2000000 }) (disch := first | omega | rfl) only [sB, Nat.reduceEqDiff, reduceCtorEq]; refine z03 ?_) | (refine EvC.condF ?_ ?_; simp (config := { maxSteps := 2000000 }) (disch := first | omega | rfl) only [sB, Nat.reduceEqDiff, reduceCtorEq]; refine z03 ?_))
    exact z04 rfl (by simp only [sB, Nat.reduceEqDiff, reduceCtorEq] <;> rfl) ⟨by simp [fltO, h1], rfl⟩
end Go.Proofs.YtlllbkjiadcloaaDoor.hb
end

-- Z8
section
namespace Go.Proofs.YtlllbkjiadcloaaDoor.hb
open Go Go.RowKit Go.Hb
def expF (g : Nat) : Nat := g / 4503599627370496 - 1
def manF (g : Nat) : Nat := if g < 4503599627370496 then g else 4503599627370496 + g % 4503599627370496
def valF (g : Nat) : Nat := manF g * 2 ^ expF g
theorem zci {g h : Nat} (l : g < h) : valF g < valF h := by
  unfold valF
  by_cases e : expF g = expF h
  · rw [e]
    refine Nat.mul_lt_mul_of_pos_right ?_ (Nat.two_pow_pos _)
    unfold manF expF at *
    split <;> split <;> omega
  · have e' : expF g < expF h := by unfold expF at *; omega
    have h1 : manF g < 9007199254740992 := by unfold manF; split <;> omega
    have h2 : 4503599627370496 ≤ manF h := by unfold manF expF at *; split <;> omega
    have h3 : 2 ^ (expF g + 1) ≤ 2 ^ expF h := Nat.pow_le_pow_right (by omega) e'
    have h4 : manF g * 2 ^ expF g < 9007199254740992 * 2 ^ expF g := Nat.mul_lt_mul_of_pos_right h1 (Nat.two_pow_pos _)
    have h5 : 4503599627370496 * 2 ^ expF h ≤ manF h * 2 ^ expF h := Nat.mul_le_mul_right _ h2
    have h6 : 4503599627370496 * 2 ^ (expF g + 1) ≤ 4503599627370496 * 2 ^ expF h := Nat.mul_le_mul_left _ h3
    rw [Nat.pow_succ] at h6
    omega
theorem z7d {g h : Nat} : valF g < valF h ↔ g < h := by
  constructor
  · intro e
    rcases Nat.lt_trichotomy g h with l | l | l
    · exact l
    · subst l; omega
    · have := zci l; omega
  · exact zci
theorem ze4 {w : Nat} (h : w % 9223372036854775808 < 9218868437227405312) :
    Ieee.double.read w = .number (w / 9223372036854775808 % 2 == 1) (manF (w % 9223372036854775808)) ((expF (w % 9223372036854775808) : Int) - 1074) := by
  rw [z97]
  generalize w % 9223372036854775808 = g at h
  split
  · rename_i h1
    have e1 : manF g = g := by unfold manF; rw [if_pos h1]
    have e2 : expF g = 0 := by unfold expF; omega
    rw [e1, e2]; rfl
  · rename_i h1
    have e1 : manF g = 4503599627370496 + g % 4503599627370496 := by unfold manF; rw [if_neg h1]
    rw [e1]
    congr 1
    first | done | (unfold expF; omega)
theorem zcj {x y : Int} {c : Nat} (hc : 0 < c) : compare (x * c) (y * c) = compare x y := by
  have hc' : (0 : Int) < c := by omega
  rcases Int.lt_trichotomy x y with h | h | h
  · rw [Int.compare_eq_lt.2 h, Int.compare_eq_lt.2 (Int.mul_lt_mul_of_pos_right h hc')]
  · subst h; rw [Int.compare_eq_eq.2 rfl, Int.compare_eq_eq.2 rfl]
  · rw [Int.compare_eq_gt.2 h, Int.compare_eq_gt.2 (Int.mul_lt_mul_of_pos_right h hc')]
def svF (s : Bool) (x : Nat) : Int := if s then -(x : Int) else x
theorem zb7 (s : Bool) (m k : Nat) : Ieee.signed s m k = svF s (m * 2 ^ k) := by
  unfold Ieee.signed svF
  rw [Nat.shiftLeft_eq]
theorem zhn (s : Bool) (x c : Nat) : svF s (x * c) = svF s x * c := by
  unfold svF
  cases s
  · simp
  · simp [Int.neg_mul]
theorem zho (s t : Bool) (m n i j : Nat) : Ieee.Datum.order (.number s m ((i : Int) - 1074)) (.number t n ((j : Int) - 1074)) = some (compare (svF s (m * 2 ^ i)) (svF t (n * 2 ^ j))) := by
  show some (compare (Ieee.signed s m (((i : Int) - 1074) - min ((i : Int) - 1074) ((j : Int) - 1074)).toNat) (Ieee.signed t n (((j : Int) - 1074) - min ((i : Int) - 1074) ((j : Int) - 1074)).toNat)) = _
  have e1 : (((i : Int) - 1074) - min ((i : Int) - 1074) ((j : Int) - 1074)).toNat = i - min i j := by omega
  have e2 : (((j : Int) - 1074) - min ((i : Int) - 1074) ((j : Int) - 1074)).toNat = j - min i j := by omega
  rw [e1, e2, zb7, zb7]
  have f1 : m * 2 ^ i = m * 2 ^ (i - min i j) * 2 ^ min i j := by rw [Nat.mul_assoc, ← Nat.pow_add]; congr 2; omega
  have f2 : n * 2 ^ j = n * 2 ^ (j - min i j) * 2 ^ min i j := by rw [Nat.mul_assoc, ← Nat.pow_add]; congr 2; omega
  rw [f1, f2, zhn s (m * 2 ^ (i - min i j)), zhn t (n * 2 ^ (j - min i j)), zcj (Nat.two_pow_pos _)]
theorem zjm {v w : Nat} (hv : v % 9223372036854775808 < 9218868437227405312) (hw : w % 9223372036854775808 < 9218868437227405312) :
    ordF v w = some (compare (svF (v / 9223372036854775808 % 2 == 1) (valF (v % 9223372036854775808))) (svF (w / 9223372036854775808 % 2 == 1) (valF (w % 9223372036854775808)))) := by
  show Ieee.Datum.order (Ieee.double.read v) (Ieee.double.read w) = _
  rw [ze4 hv, ze4 hw, zho]; rfl
def sgnF (v : Nat) : Int := svF (v / 9223372036854775808 % 2 == 1) (valF (v % 9223372036854775808))
theorem z9a {v : Nat} (h : v < 9223372036854775808) : sgnF v = valF v := by
  have e1 : (v / 9223372036854775808 % 2 == 1) = false := beq_eq_false_iff_ne.2 (by omega)
  have e2 : v % 9223372036854775808 = v := by omega
  unfold sgnF
  rw [e1, e2, svF, if_neg Bool.false_ne_true]
theorem z9b {v : Nat} (h : 9223372036854775808 ≤ v) (h' : v < 18446744073709551616) : sgnF v = -(valF (v - 9223372036854775808) : Int) := by
  have e1 : (v / 9223372036854775808 % 2 == 1) = true := beq_iff_eq.2 (by omega)
  have e2 : v % 9223372036854775808 = v - 9223372036854775808 := by omega
  unfold sgnF
  rw [e1, e2, svF, if_pos rfl]
theorem zhp {v w : Nat} (hv : v < 18446744073709551616) (hw : w < 18446744073709551616) (nv : v ≠ 9223372036854775808) (nw : w ≠ 9223372036854775808) : sgnF v < sgnF w ↔ keyF v < keyF w := by
  have z : ∀ g, 0 < g → 0 < valF g := fun g h => by have := zci h; omega
  unfold keyF
  by_cases h1 : v < 9223372036854775808 <;> by_cases h2 : w < 9223372036854775808
  · rw [z9a h1, z9a h2, if_neg (by omega), if_neg (by omega)]
    have := @z7d v w
    omega
  · rw [z9a h1, z9b (by omega) hw, if_neg (by omega), if_pos (by omega)]
    have := z (w - 9223372036854775808) (by omega)
    omega
  · rw [z9b (by omega) hv, z9a h2, if_pos (by omega), if_neg (by omega)]
    have := z (v - 9223372036854775808) (by omega)
    omega
  · rw [z9b (by omega) hv, z9b (by omega) hw, if_pos (by omega), if_pos (by omega)]
    have := @z7d (w - 9223372036854775808) (v - 9223372036854775808)
    omega
theorem zmg {v w : Nat} (hv : v < 18446744073709551616) (hw : w < 18446744073709551616) (nv : v ≠ 9223372036854775808) (nw : w ≠ 9223372036854775808)
    (fv : v % 9223372036854775808 < 9218868437227405312) (fw : w % 9223372036854775808 < 9218868437227405312) : fltO v w = fltZ v w := by
  have e : ordF v w = some (compare (sgnF v) (sgnF w)) := zjm fv fw
  have a := zhp hv hw nv nw
  have b := zhp hw hv nw nv
  unfold fltO fltZ
  rw [e]
  rcases Int.lt_trichotomy (sgnF v) (sgnF w) with h | h | h
  · rw [Int.compare_eq_lt.2 h, z4c (a.1 h)]; rfl
  · rw [Int.compare_eq_eq.2 h, z4e (by omega)]; rfl
  · rw [Int.compare_eq_gt.2 h, z4d (b.1 h)]; rfl
end Go.Proofs.YtlllbkjiadcloaaDoor.hb
end

-- Z9
section
namespace Go.Proofs.YtlllbkjiadcloaaDoor.hb
open Go Go.RowKit Go.Hb
mutual
def ordT : Tm → Tm → Int
  | .mk k s u b v l, .mk k' s' u' b' v' l' =>
    if k ≠ k' then cmpZ (rankZ k) (rankZ k')
    else if k = 1 then cmpZ v v'
    else if k = 3 then numZ u u'
    else if k = 4 then fltZ b b'
    else if orZ (cmpZ l.length l'.length) (cmpS s s') = 0 then ordL l l' else orZ (cmpZ l.length l'.length) (cmpS s s')
def ordL : List Tm → List Tm → Int
  | [], _ => 0
  | _ :: _, [] => 0
  | t :: l, t' :: l' => if ordT t t' = 0 then ordL l l' else ordT t t'
end
def headZ (t t' : Tm) : Int := orZ (cmpZ t.args.length t'.args.length) (cmpS t.name t'.name)
theorem z2l (t t' : Tm) : ordT t t' = if t.kind ≠ t'.kind then cmpZ (rankZ t.kind) (rankZ t'.kind)
    else if t.kind = 1 then cmpZ t.var t'.var
    else if t.kind = 3 then numZ t.num t'.num
    else if t.kind = 4 then fltZ t.bits t'.bits
    else if headZ t t' = 0 then ordL t.args t'.args else headZ t t' := by
  obtain ⟨k, s, u, b, v, l⟩ := t
  obtain ⟨k', s', u', b', v', l'⟩ := t'
  rw [ordT]; rfl
theorem zb8 {l l' : List Tm} {i : Nat} {t t' : Tm} (h : l[i]? = some t) (h' : l'[i]? = some t') :
    ordL (l.drop i) (l'.drop i) = if ordT t t' = 0 then ordL (l.drop (i + 1)) (l'.drop (i + 1)) else ordT t t' := by
  have hlt := (List.getElem?_eq_some_iff.1 h).1
  have he : l[i] = t := (List.getElem?_eq_some_iff.1 h).2
  have hlt' := (List.getElem?_eq_some_iff.1 h').1
  have he' : l'[i] = t' := (List.getElem?_eq_some_iff.1 h').2
  rw [List.drop_eq_getElem_cons hlt, List.drop_eq_getElem_cons hlt', ordL, he, he']
theorem z62 {t t' : Tm} (h : headZ t t' = 0) : t.args.length = t'.args.length := by
  unfold headZ orZ at h
  have := z1r (t.args.length : Int) t'.args.length
  by_cases e : cmpZ (t.args.length : Int) t'.args.length = 0
  · unfold cmpZ at e
    split at e
    · omega
    · split at e <;> omega
  · rw [if_neg e] at h; exact absurd h e
end Go.Proofs.YtlllbkjiadcloaaDoor.hb
end

-- Z11
section
namespace Go.Proofs.YtlllbkjiadcloaaDoor.hb
open Go Go.RowKit Go.Hb
def TT (x y z : Int) : Prop := (x ≤ 0 → y ≤ 0 → z ≤ 0) ∧ (0 ≤ x → 0 ≤ y → 0 ≤ z) ∧ (x < 0 → y ≤ 0 → z < 0) ∧ (x ≤ 0 → y < 0 → z < 0) ∧ (0 < x → 0 ≤ y → 0 < z) ∧ (0 ≤ x → 0 < y → 0 < z)
theorem TT.or {x1 y1 z1 x2 y2 z2 : Int} (h1 : TT x1 y1 z1) (h2 : x1 = 0 → y1 = 0 → TT x2 y2 z2) : TT (orZ x1 x2) (orZ y1 y2) (orZ z1 z2) := by
  unfold orZ TT at *
  by_cases a : x1 = 0 <;> by_cases b : y1 = 0
  · have c : z1 = 0 := by omega
    simp only [a, b, c, if_true]
    exact h2 a b
  · have c : z1 ≠ 0 := by omega
    simp only [a, b, c, if_true, if_false]
    omega
  · have c : z1 ≠ 0 := by omega
    simp only [a, b, c, if_true, if_false]
    omega
  · by_cases c : z1 = 0
    · simp only [a, b, c, if_true, if_false]; omega
    · simp only [a, b, c, if_false]; omega
theorem TT.neg {x y z : Int} (h : TT x y z) : TT (-x) (-y) (-z) := by unfold TT at *; omega
theorem TT.cmp (a b c : Int) : TT (cmpZ a b) (cmpZ b c) (cmpZ a c) := by
  unfold TT cmpZ
  by_cases h1 : a < b <;> by_cases h2 : b < a <;> by_cases h3 : b < c <;> by_cases h4 : c < b <;> by_cases h5 : a < c <;> by_cases h6 : c < a <;> simp only [h1, h2, h3, h4, h5, h6, if_true, if_false] <;> (refine ⟨?_, ?_, ?_, ?_, ?_, ?_⟩ <;> intros <;> omega)
theorem TT.zero : TT 0 0 0 := by unfold TT; omega
theorem z2z (a b : Int) : cmpZ b a = -(cmpZ a b) := by
  unfold cmpZ
  by_cases h1 : a < b <;> by_cases h2 : b < a <;> simp only [h1, h2, if_true, if_false] <;> omega
theorem z15 {a b : Int} : cmpZ a b = 0 ↔ a = b := by
  unfold cmpZ
  constructor
  · intro h; split at h
    · omega
    · split at h <;> omega
  · rintro rfl; simp
def cmpB (a b : List UInt8) : Int := if Op.bytesLess a b then -1 else if Op.bytesLess b a then 1 else 0
theorem z3v : cmpB [] [] = 0 := by simp [cmpB, Op.bytesLess]
theorem z3l {y : UInt8} {b : List UInt8} : cmpB [] (y :: b) = -1 := by simp [cmpB, Op.bytesLess]
theorem z3m {y : UInt8} {b : List UInt8} : cmpB (y :: b) [] = 1 := by simp [cmpB, Op.bytesLess]
theorem z30 {x y : UInt8} {a b : List UInt8} : cmpB (x :: a) (y :: b) = orZ (cmpZ x.toNat y.toNat) (cmpB a b) := by
  unfold cmpB
  simp only [Op.bytesLess]
  rcases Nat.lt_trichotomy x.toNat y.toNat with h | h | h
  · have h1 : x < y := UInt8.lt_iff_toNat_lt.2 h
    have hc : cmpZ (x.toNat : Int) y.toNat = -1 := by unfold cmpZ; rw [if_pos (by omega)]
    rw [hc]
    simp [h1, orZ]
  · obtain rfl : x = y := UInt8.toNat_inj.1 h
    have hc : cmpZ (x.toNat : Int) x.toNat = 0 := z15.2 rfl
    rw [hc]
    simp [orZ]
  · have h1 : y < x := UInt8.lt_iff_toNat_lt.2 h
    have h2 : ¬ x < y := fun q => by have := UInt8.lt_iff_toNat_lt.1 q; omega
    have h3 : x ≠ y := fun q => by rw [q] at h; omega
    have hc : cmpZ (x.toNat : Int) y.toNat = 1 := by unfold cmpZ; rw [if_neg (by omega), if_pos (by omega)]
    rw [hc]
    simp [h1, h2, h3, orZ]
theorem TT.bytes : ∀ (a b c : List UInt8), TT (cmpB a b) (cmpB b c) (cmpB a c)
  | [], [], [] => by rw [z3v]; exact TT.zero
  | [], [], _ :: _ => by rw [z3v, z3l]; unfold TT; omega
  | [], _ :: _, [] => by rw [z3v, z3l, z3m]; unfold TT; omega
  | _ :: _, [], [] => by rw [z3v, z3m]; unfold TT; omega
  | _ :: _, [], _ :: _ => by rw [z3l, z3m]; unfold TT; omega
  | [], _ :: _, _ :: _ => by rw [z3l, z3l]; unfold TT; omega
  | _ :: _, _ :: _, [] => by rw [z3m, z3m]; unfold TT; omega
  | x :: a, y :: b, z :: c => by
    rw [z30, z30, z30]
    exact TT.or (TT.cmp _ _ _) fun _ _ => TT.bytes a b c
theorem zb9 : ∀ (a b : List UInt8), cmpB b a = -(cmpB a b)
  | [], [] => by rw [z3v]; rfl
  | [], _ :: _ => by rw [z3l, z3m]; rfl
  | _ :: _, [] => by rw [z3l, z3m]
  | x :: a, y :: b => by rw [z30, z30, z2z x.toNat y.toNat, zb9 a b, zce]
theorem z7e : ∀ {a b : List UInt8}, cmpB a b = 0 ↔ a = b
  | [], [] => by rw [z3v]; simp
  | [], _ :: _ => by rw [z3l]; simp
  | _ :: _, [] => by rw [z3m]; simp
  | x :: a, y :: b => by
    rw [z30, z5y, z15, z7e (a := a) (b := b), List.cons.injEq]
    constructor
    · rintro ⟨h1, h2⟩; exact ⟨UInt8.toNat_inj.1 (by omega), h2⟩
    · rintro ⟨h1, h2⟩; exact ⟨by rw [h1], h2⟩
theorem TT.texts (a b c : ByteArray) : TT (cmpS a b) (cmpS b c) (cmpS a c) := TT.bytes a.toList b.toList c.toList
theorem zba (a b : ByteArray) : cmpS b a = -(cmpS a b) := zb9 a.toList b.toList
theorem z7f {a b : ByteArray} : cmpS a b = 0 ↔ a = b :=
  ⟨fun h => z5e (z7e.1 h), fun h => by subst h; exact z7e.2 rfl⟩
theorem TT.nums (a b c : ByteArray) : TT (numZ a b) (numZ b c) (numZ a c) := by
  have h := TT.or (TT.cmp (a.size : Int) b.size c.size) fun _ _ => TT.texts a b c
  unfold numZ
  cases negS (bl a) <;> cases negS (bl b) <;> cases negS (bl c) <;> simp only [Bool.and_true, Bool.and_false, Bool.not_true, Bool.not_false, if_true, if_false, Bool.false_eq_true]
  · exact h
  all_goals first | exact h.neg | (unfold TT; omega)
theorem zhq (a b : ByteArray) : numZ b a = -(numZ a b) := by
  have h : orZ (cmpZ (b.size : Int) a.size) (cmpS b a) = -(orZ (cmpZ (a.size : Int) b.size) (cmpS a b)) := by rw [z2z (a.size : Int), zba a b, zce]
  unfold numZ
  rw [h]
  cases negS (bl a) <;> cases negS (bl b) <;> simp
theorem zhr {a b : ByteArray} : numZ a b = 0 ↔ a = b := by
  constructor
  · intro h
    have key : orZ (cmpZ (a.size : Int) b.size) (cmpS a b) = 0 := by
      revert h
      unfold numZ
      cases negS (bl a) <;> cases negS (bl b) <;> simp
    exact z7f.1 (z5y.1 key).2
  · rintro rfl
    unfold numZ
    have h : orZ (cmpZ (a.size : Int) a.size) (cmpS a a) = 0 := z5y.2 ⟨z15.2 rfl, z7f.2 rfl⟩
    rw [h]
    cases negS (bl a) <;> simp
theorem TT.flts (a b c : Int) : TT (fltZ a b) (fltZ b c) (fltZ a c) := TT.cmp _ _ _
theorem zhs (a b : Int) : fltZ b a = -(fltZ a b) := z2z _ _
theorem z7g {k k' : Int} (h1 : 1 ≤ k) (h2 : k ≤ 5) (h3 : 1 ≤ k') (h4 : k' ≤ 5) (h : rankZ k = rankZ k') : k = k' := by
  unfold rankZ at h
  repeat' split at h
  all_goals omega
def restZ (t t' : Tm) : Int := if t.kind = 1 then cmpZ t.var t'.var else if t.kind = 3 then numZ t.num t'.num else if t.kind = 4 then fltZ t.bits t'.bits else orZ (headZ t t') (ordL t.args t'.args)
theorem zck {t t' : Tm} (h1 : 1 ≤ t.kind ∧ t.kind ≤ 5) (h2 : 1 ≤ t'.kind ∧ t'.kind ≤ 5) : ordT t t' = orZ (cmpZ (rankZ t.kind) (rankZ t'.kind)) (restZ t t') := by
  rw [z2l]
  by_cases hk : t.kind = t'.kind
  · rw [if_neg (fun h => h hk)]
    have : cmpZ (rankZ t.kind) (rankZ t'.kind) = 0 := by rw [hk]; exact z15.2 rfl
    rw [this, orZ, if_pos rfl]
    unfold restZ orZ; rfl
  · rw [if_pos hk]
    have : cmpZ (rankZ t.kind) (rankZ t'.kind) ≠ 0 := fun h => hk (z7g h1.1 h1.2 h2.1 h2.2 (z15.1 h))
    rw [orZ, if_neg this]
theorem z7h (t t' : Tm) (l l' : List Tm) : ordL (t :: l) (t' :: l') = orZ (ordT t t') (ordL l l') := by rw [ordL]; rfl
theorem TT.lists : ∀ (l1 l2 l3 : List Tm), l1.length = l2.length → l2.length = l3.length → (∀ t ∈ l1, ∀ t2 ∈ l2, ∀ t3 ∈ l3, TT (ordT t t2) (ordT t2 t3) (ordT t t3)) → TT (ordL l1 l2) (ordL l2 l3) (ordL l1 l3)
  | [], [], [], _, _, _ => by simp only [ordL]; exact TT.zero
  | [], _ :: _, _, h, _, _ => by simp at h
  | _ :: _, [], _, h, _, _ => by simp at h
  | _, [], _ :: _, _, h, _ => by simp at h
  | _, _ :: _, [], _, h, _ => by simp at h
  | t1 :: l1, t2 :: l2, t3 :: l3, h, h', ih => by
    rw [z7h, z7h, z7h]
    exact TT.or (ih t1 (by simp) t2 (by simp) t3 (by simp)) fun _ _ => TT.lists l1 l2 l3 (by simpa using h) (by simpa using h') fun a ha b hb c hc => ih a (List.mem_cons_of_mem _ ha) b (List.mem_cons_of_mem _ hb) c (List.mem_cons_of_mem _ hc)
theorem TT.terms : ∀ (m : Nat) (t1 t2 t3 : Tm), SizeOf.sizeOf t1 < m → Fine t1 → Fine t2 → Fine t3 → TT (ordT t1 t2) (ordT t2 t3) (ordT t1 t3)
  | 0, _, _, _, h, _, _, _ => by omega
  | m + 1, t1, t2, t3, hm, f1, f2, f3 => by
    have k1 := z28 f1.node; have k2 := z28 f2.node; have k3 := z28 f3.node
    rw [zck ⟨k1.1, k1.2.1⟩ ⟨k2.1, k2.2.1⟩, zck ⟨k2.1, k2.2.1⟩ ⟨k3.1, k3.2.1⟩, zck ⟨k1.1, k1.2.1⟩ ⟨k3.1, k3.2.1⟩]
    refine TT.or (TT.cmp _ _ _) fun e1 e2 => ?_
    have q1 : t1.kind = t2.kind := z7g k1.1 k1.2.1 k2.1 k2.2.1 (z15.1 e1)
    have q2 : t2.kind = t3.kind := z7g k2.1 k2.2.1 k3.1 k3.2.1 (z15.1 e2)
    unfold restZ
    rw [← q1]
    split
    · exact TT.cmp _ _ _
    split
    · exact TT.nums _ _ _
    split
    · exact TT.flts _ _ _
    refine TT.or (TT.or (TT.cmp _ _ _) fun _ _ => TT.texts _ _ _) fun e1 e2 => ?_
    refine TT.lists _ _ _ (z62 e1) (z62 e2) fun a ha b hb c hc => ?_
    exact TT.terms m a b c (by have := z4y ha; omega) (f1.args a ha) (f2.args b hb) (f3.args c hc)
mutual
theorem z3n : ∀ (t t' : Tm), ordT t' t = -(ordT t t')
  | .mk k s u b v l, .mk k' s' u' b' v' l' => by
    rw [ordT, ordT]
    by_cases hk : k = k'
    · subst hk
      simp only [ne_eq, not_true_eq_false, if_false]
      split
      · exact z2z _ _
      split
      · exact zhq _ _
      split
      · exact zhs _ _
      have h : orZ (cmpZ (l'.length : Int) l.length) (cmpS s' s) = -(orZ (cmpZ (l.length : Int) l'.length) (cmpS s s')) := by rw [z2z (l.length : Int), zba s s', zce]
      rw [h, zbb l l']
      by_cases h0 : orZ (cmpZ (l.length : Int) l'.length) (cmpS s s') = 0
      · rw [if_pos (by omega), if_pos h0]
      · rw [if_neg (by omega), if_neg h0]
    · rw [if_pos (fun h => hk h.symm), if_pos hk]
      exact z2z _ _
theorem zbb : ∀ (l l' : List Tm), ordL l' l = -(ordL l l')
  | [], [] => by simp [ordL]
  | [], _ :: _ => by simp [ordL]
  | _ :: _, [] => by simp [ordL]
  | t :: l, t' :: l' => by
    rw [ordL, ordL, z3n t t', zbb l l']
    by_cases h0 : ordT t t' = 0
    · rw [if_pos (by omega), if_pos h0]
    · rw [if_neg (by omega), if_neg h0]
end
mutual
theorem zht : ∀ (t : Tm), ordT t t = 0
  | .mk k s u b v l => by
    rw [ordT, if_neg (fun h => h rfl)]
    split
    · exact z15.2 rfl
    split
    · exact zhr.2 rfl
    split
    · exact z15.2 rfl
    rw [if_pos (z5y.2 ⟨z15.2 rfl, z7f.2 rfl⟩)]
    exact zbc l
theorem zbc : ∀ (l : List Tm), ordL l l = 0
  | [] => by rw [ordL]
  | t :: l => by rw [ordL, if_pos (zht t)]; exact zbc l
end
inductive U64s : Tm → Prop
  | mk {t : Tm} : u64 t.bits → (∀ u ∈ t.args, U64s u) → U64s t
theorem U64s.bits {t : Tm} (h : U64s t) : u64 t.bits := by cases h; assumption
theorem U64s.args {t : Tm} (h : U64s t) : ∀ u ∈ t.args, U64s u := by cases h; assumption
theorem zf6 (a b : ByteArray) : -1 ≤ numZ a b ∧ numZ a b ≤ 1 := by
  have := z51 (z1r a.size b.size) (z3u a b)
  unfold numZ
  split
  · omega
  split
  · omega
  split <;> omega
mutual
theorem zf7 : ∀ (t t' : Tm), -1 ≤ ordT t t' ∧ ordT t t' ≤ 1
  | .mk k s u b v l, .mk k' s' u' b' v' l' => by
    rw [ordT]
    split
    · exact z1r _ _
    split
    · exact z1r _ _
    split
    · exact zf6 _ _
    split
    · exact z1r _ _
    split
    · exact z8b l l'
    · exact z51 (z1r _ _) (z3u _ _)
theorem z8b : ∀ (l l' : List Tm), -1 ≤ ordL l l' ∧ ordL l l' ≤ 1
  | [], _ => by rw [ordL]; omega
  | _ :: _, [] => by rw [ordL]; omega
  | t :: l, t' :: l' => by
    rw [ordL]
    split
    · exact z8b l l'
    · exact zf7 t t'
end
theorem zbd {s : ByteArray} (h : canonS s = true) : 1 ≤ s.size := by
  by_cases h0 : s.size = 0
  · exfalso
    have : s.data.toList = [] := List.length_eq_zero_iff.1 (by simpa using h0)
    unfold canonS at h
    rw [show bl s = [] by unfold bl; rw [this]; rfl] at h
    exact absurd h (by decide)
  · omega
end Go.Proofs.YtlllbkjiadcloaaDoor.hb
end

-- Z10
section
namespace Go.Proofs.YtlllbkjiadcloaaDoor.hb
open Go Go.RowKit Go.Hb
variable {ok : Ok}
set_option maxRecDepth 10000
attribute [local irreducible] LX LG EL STG SOP SGO SGD SAL SRD SEF SEG SLK SCK ES
theorem z9c {n : Int} (hn : u64 n) (h : fltS n = true) : n.toNat % 9223372036854775808 < 9218868437227405312 ∧ n.toNat ≠ 9223372036854775808 ∧ (FloatKind.f64.format.order n.toNat n.toNat != some .eq) = false ∧ n.toNat < 18446744073709551616 ∧ ((n.toNat : Nat) : Int) = n := by
  have hm : n.toNat < 18446744073709551616 := by unfold u64 at hn; omega
  have hc : ((n.toNat : Nat) : Int) = n := by unfold u64 at hn; omega
  unfold fltS at h
  simp only [Bool.not_eq_true', Bool.or_eq_false_iff, beq_eq_false_iff_ne] at h
  obtain ⟨⟨h1, h2⟩, h3⟩ := h
  have h1' := h1
  unfold fnB at h1
  rw [zkx] at h1
  unfold fiB at h2
  rw [zh2 _ hm, zky _ (Nat.mod_lt _ (by omega))] at h2
  have a := of_decide_eq_false h1
  have b := of_decide_eq_false h2
  exact ⟨by omega, by omega, h1', hm, hc⟩
set_option maxHeartbeats 4000000 in
theorem z9d {m : Nat} : ∀ {t t' : Tm} {cs cs' : List Value} {H : Heap}, SizeOf.sizeOf t < m → RepT H t cs → RepT H t' cs' → Fine t → Fine t' → H.wf →
    EvF Tryd.prog okT 53 [.agg ⟨cs⟩, .agg ⟨cs'⟩] H fun v H' => v = .int .i64 (ordT t t') ∧ HX H H' := by
  induction m with
  | zero => intro t t' cs cs' H h; omega
  | succ m ih =>
  intro t t' cs cs' H hsz r r' hn hn' hw
  obtain ⟨a, c, cells, rfl, b1, b2, b3, b4, b5, rl⟩ := r.six
  obtain ⟨a', c', cells', rfl, b1', b2', b3', b4', b5', rl'⟩ := r'.six
  refine EvF.enter rfl Tryd.func53 (by decide) rfl ?_
  (repeat refine EvC.seq ?_); refine EvC.reg ?_; simp (config := { maxSteps := 2000000 }) (disch := first | omega | rfl) only [sB, initTm, dBox, Nat.reduceEqDiff, Value.cells, one, reduceCtorEq]
  obtain ⟨H2, e2, hx2, gp, gq, hnx, hw2⟩ := new2 hw (.row (six t a c) 26) (.row (six t' a' c') 26)
  simp only [e2]
  have q1 := row6 gp
  have q2 := row6 gq
  have rl2 := rl.mono hx2 hw
  have rl2' := rl'.mono hx2 hw
  clear e2
  by_cases hk : t.kind = t'.kind
  · by_cases k1 : t.kind = 1
    · repeat' (first | refine EvC.seq ?_ | refine EvC.scope ?_ | refine EvC.block ?_ | (refine EvC.skip ?_; try simp only [z02]) | (refine EvC.exit ?_) | (refine EvC.ret ?_; try simp only [z01, z00]) | (refine EvC.reg ?_; simp (config := { maxSteps := 2000000 }) (disch := first | omega | rfl) only [sB, Nat.reduceEqDiff, reduceCtorEq, z0w, ld3, cl83, zaj, z10 hk, q1, q2, z19 k1]) | (refine EvC.condT ?_ ?_; simp (config := { maxSteps := 2000000 }) (disch := first | omega | rfl) only [sB, Nat.reduceEqDiff, reduceCtorEq]; refine z03 ?_) | (refine EvC.condF ?_ ?_; simp (config := { maxSteps := 2000000 }) (disch := first | omega | rfl) only [sB, Nat.reduceEqDiff, reduceCtorEq]; refine z03 ?_))
      refine z7a.mono ?_
      rintro v H1 ⟨rfl, rfl⟩
      repeat' (first | refine EvC.seq ?_ | refine EvC.scope ?_ | refine EvC.block ?_ | (refine EvC.skip ?_) | (refine EvC.exit ?_) | (refine EvC.ret ?_; try simp only [z01, z00]))
      exact z04 rfl (by simp only [sB, Nat.reduceEqDiff, reduceCtorEq] <;> rfl) ⟨by rw [z2l, if_neg (fun h => h hk), if_pos k1], hx2⟩
    by_cases k3 : t.kind = 3
    · repeat' (first | refine EvC.seq ?_ | refine EvC.scope ?_ | refine EvC.block ?_ | (refine EvC.skip ?_; try simp only [z02]) | (refine EvC.exit ?_) | (refine EvC.ret ?_; try simp only [z01, z00]) | (refine EvC.reg ?_; simp (config := { maxSteps := 2000000 }) (disch := first | omega | rfl) only [sB, Nat.reduceEqDiff, reduceCtorEq, z0w, ld3, z6y, ld9, cl87, z10 hk, q1, q2, z0i k1, z19 k3]) | (refine EvC.condT ?_ ?_; simp (config := { maxSteps := 2000000 }) (disch := first | omega | rfl) only [sB, Nat.reduceEqDiff, reduceCtorEq]; refine z03 ?_) | (refine EvC.condF ?_ ?_; simp (config := { maxSteps := 2000000 }) (disch := first | omega | rfl) only [sB, Nat.reduceEqDiff, reduceCtorEq]; refine z03 ?_))
      refine (zf5 b3 b3' hx2.wf).mono ?_
      rintro v H1 ⟨rfl, hx3⟩
      repeat' (first | refine EvC.seq ?_ | refine EvC.scope ?_ | refine EvC.block ?_ | (refine EvC.skip ?_) | (refine EvC.exit ?_) | (refine EvC.ret ?_; try simp only [z01, z00]))
      exact z04 rfl (by simp only [sB, Nat.reduceEqDiff, reduceCtorEq] <;> rfl) ⟨by rw [z2l, if_neg (fun h => h hk), if_neg k1, if_pos k3], hx2.trans hx3⟩
    by_cases k4 : t.kind = 4
    · repeat' (first | refine EvC.seq ?_ | refine EvC.scope ?_ | refine EvC.block ?_ | (refine EvC.skip ?_; try simp only [z02]) | (refine EvC.exit ?_) | (refine EvC.ret ?_; try simp only [z01, z00]) | (refine EvC.reg ?_; simp (config := { maxSteps := 2000000 }) (disch := first | omega | rfl) only [sB, Nat.reduceEqDiff, reduceCtorEq, z0w, ld3, z10 hk, q1, q2, z0i k1, z0i k3, z19 k4]) | (refine EvC.drw (id := 9) [([(0, 0), (1, 0)], some 2), ([(3, 0), (4, 0)], some 5), ([], some 6), ([(7, 3)], none)] ?_ ?_; kernel_rfl; simp (config := { maxSteps := 2000000 }) (disch := first | omega | rfl) only [sD, sB, Nat.reduceEqDiff, Nat.reduceAdd, reduceCtorEq, z6z, ld23, q1, isAlloc, isRead, reduceCtorEq]) | (refine EvC.condT ?_ ?_; simp (config := { maxSteps := 2000000 }) (disch := first | omega | rfl) only [sB, Nat.reduceEqDiff, reduceCtorEq]; refine z03 ?_) | (refine EvC.condF ?_ ?_; simp (config := { maxSteps := 2000000 }) (disch := first | omega | rfl) only [sB, Nat.reduceEqDiff, reduceCtorEq]; refine z03 ?_))
      rw [z2n (n := t.bits) (by simp only [sG, Nat.reduceEqDiff, reduceCtorEq])]
      repeat' (first | refine EvC.seq ?_ | refine EvC.scope ?_ | refine EvC.block ?_ | (refine EvC.skip ?_) | (refine EvC.exit ?_) | (refine EvC.ret ?_; try simp only [z01, z00]) | (refine zkg ?_; simp (config := { maxSteps := 2000000 }) (disch := first | omega | rfl) only [sV, sD, sB, Nat.reduceEqDiff, reduceCtorEq, z6z, ld23, q2, isAlloc, isRead, reduceCtorEq]))
      rw [z2n (n := t'.bits) (by simp only [sG, Nat.reduceEqDiff, reduceCtorEq])]
      repeat' (first | refine EvC.seq ?_ | refine EvC.scope ?_ | refine EvC.block ?_ | (refine EvC.skip ?_) | (refine EvC.exit ?_) | (refine EvC.ret ?_; try simp only [z01, z00]) | (refine zkg ?_; simp (config := { maxSteps := 2000000 }) (disch := first | omega | rfl) only [sD, sB, Nat.reduceEqDiff, reduceCtorEq, cl88, reduceCtorEq]))
      have hf : fltS t.bits = true := (z28 (Fine.node hn)).2.2.2.2.2.2.1 k4
      have hf' : fltS t'.bits = true := (z28 (Fine.node hn')).2.2.2.2.2.2.1 (hk ▸ k4)
      have p1 := z9c b4 hf
      have p2 := z9c b4' hf'
      refine (zmf p1.2.2.1 p2.2.2.1).mono ?_
      rintro v H1 ⟨rfl, rfl⟩
      repeat' (first | refine EvC.seq ?_ | refine EvC.scope ?_ | refine EvC.block ?_ | (refine EvC.skip ?_) | (refine EvC.exit ?_) | (refine EvC.ret ?_; try simp only [z01, z00]) | (refine z0n ?_; simp (config := { maxSteps := 2000000 }) (disch := first | omega | rfl) only [sD, sB, Nat.reduceEqDiff, Nat.reduceAdd, reduceCtorEq, isAlloc, isRead, reduceCtorEq]))
      exact z04 rfl (by simp only [sB, Nat.reduceEqDiff, reduceCtorEq] <;> rfl) ⟨by rw [z2l, if_neg (fun h => h hk), if_neg k1, if_neg k3, if_pos k4, zmg p1.2.2.2.1 p2.2.2.2.1 p1.2.1 p2.2.1 p1.1 p2.1, p1.2.2.2.2, p2.2.2.2.2], hx2.bump _⟩
    repeat' (first | refine EvC.seq ?_ | refine EvC.scope ?_ | refine EvC.block ?_ | (refine EvC.skip ?_; try simp only [sA]) | (refine EvC.exit ?_) | (refine EvC.ret ?_; try simp only [z01, z00]) | (refine EvC.reg ?_; simp (config := { maxSteps := 2000000 }) (disch := first | omega | rfl) only [sB, Nat.reduceEqDiff, reduceCtorEq, z0w, ld3, z10 hk, q1, q2, z0i k1, z0i k3, z0i k4]) | (refine EvC.drw (id := 10) [([(0, 0), (1, 0), (2, 0), (3, 0), (4, 0), (5, 0)], some 6), ([(7, 0), (8, 0), (9, 0), (10, 0)], some 11), ([(12, 2)], some 13), ([(14, 3)], none)] ?_ ?_; kernel_rfl; simp (config := { maxSteps := 2000000 }) (disch := first | omega | rfl) only [sD, sB, Nat.reduceEqDiff, Nat.reduceAdd, reduceCtorEq, cl83, z0r, ld24, ln24, q1, q2, isAlloc, isRead, reduceCtorEq]) | (refine EvC.condT ?_ ?_; simp (config := { maxSteps := 2000000 }) (disch := first | omega | rfl) only [sB, Nat.reduceEqDiff, reduceCtorEq]; refine z03 ?_) | (refine EvC.condF ?_ ?_; simp (config := { maxSteps := 2000000 }) (disch := first | omega | rfl) only [sB, Nat.reduceEqDiff, reduceCtorEq]; refine z03 ?_))
    refine z7a.mono ?_
    rintro v H1 ⟨rfl, rfl⟩
    repeat' (first | refine EvC.seq ?_ | refine EvC.scope ?_ | refine EvC.block ?_ | (refine EvC.skip ?_) | (refine EvC.exit ?_) | (refine EvC.ret ?_; try simp only [z01, z00]) | (refine z0n ?_; simp (config := { maxSteps := 2000000 }) (disch := first | omega | rfl) only [sV, sD, sB, Nat.reduceEqDiff, reduceCtorEq, ld9, z2j, cl91, q1, q2, isAlloc, isRead, reduceCtorEq]))
    refine zcf.mono ?_
    rintro v H1 ⟨rfl, rfl⟩
    repeat' (first | refine EvC.seq ?_ | refine EvC.scope ?_ | refine EvC.block ?_ | (refine EvC.skip ?_) | (refine EvC.exit ?_) | (refine EvC.ret ?_; try simp only [z01, z00]) | (refine z0n ?_; simp (config := { maxSteps := 2000000 }) (disch := first | omega | rfl) only [sD, sB, Nat.reduceEqDiff, Nat.reduceAdd, Value.cells, one, reduceCtorEq, Nat.reduceLeDiff, layC, zgi, cl90, isAlloc, dalloc, reduceCtorEq]))
    obtain ⟨H3, e3, hx3, g3, hw3⟩ := znu hw2 15 12 (by omega) (.row [.int .i64 (cmpZ t.args.length t'.args.length), .int .i64 (cmpS t.name t'.name)] 3)
    simp only [e3]
    clear e3
    refine (zma (row2 g3).1 (row2 g3).2).mono ?_
    rintro v H1 ⟨rfl, rfl⟩
    have gp3 := hx3.get hw2 gp
    have gq3 := hx3.get hw2 gq
    have hx23 := hx2.trans hx3
    repeat' (first | refine EvC.seq ?_ | refine EvC.scope ?_ | refine EvC.block ?_ | (refine EvC.skip ?_) | (refine EvC.exit ?_) | (refine EvC.ret ?_; try simp only [z01, z00]) | (refine EvC.reg ?_; simp (config := { maxSteps := 2000000 }) (disch := first | omega | rfl) only [sA]) | (refine z0n ?_; simp (config := { maxSteps := 2000000 }) (disch := first | omega | rfl) only [sD, sB, Nat.reduceEqDiff, Nat.reduceAdd, reduceCtorEq, isAlloc, isRead, reduceCtorEq]))
    refine EvC.loop (fun k st => ∃ tm H' i w, st = ⟨tm, [], H'⟩ ∧ k = t.args.length - i ∧ i ≤ t.args.length ∧ (headZ t t' = 0 ∨ headZ t t' = w) ∧ (headZ t t' = 0 → (if w = 0 then ordL (t.args.drop i) (t'.args.drop i) else w) = ordL t.args t'.args) ∧
      tm.get 2 = some (.pointer (some ⟨H.next, 0, none⟩)) ∧ tm.get 3 = some (.pointer (some ⟨H.next + 1, 0, none⟩)) ∧ tm.get 5 = some (.int .i64 w) ∧ tm.get 6 = some (.int .i64 (i : Nat)) ∧
      H'.get H.next = some (.row (six t a c) 26) ∧ H'.get (H.next + 1) = some (.row (six t' a' c') 26) ∧ HX H H') ?_ t.args.length _ ?_
    · rintro k st ⟨tm, H', i, w, rfl, rfl, hi, hh, hc, t2, t3, t5, t6, gp', gq', hx'⟩
      have q1 := row6 gp'
      have q2 := row6 gq'
      have fin : ∀ u : Int, ordT t t' = if headZ t t' = 0 then ordL t.args t'.args else headZ t t' := fun _ => by rw [z2l, if_neg (fun h => h hk), if_neg k1, if_neg k3, if_neg k4]
      by_cases hlt : i < t.args.length
      · by_cases h0 : w = 0
        · have hh0 : headZ t t' = 0 := by rcases hh with h | h; exact h; rw [h]; exact h0
          have hlt' : i < t'.args.length := by rw [← z62 hh0]; exact hlt
          obtain ⟨b, o, a1, c1, rfl, hld, hr1⟩ := rl.el hlt
          obtain ⟨b', o', a2, c2, rfl, hld', hr2⟩ := rl'.el hlt'
          have hld1 := hx'.load hw hld
          have hld2 := hx'.load hw hld'
          repeat' (first | refine EvC.seq ?_ | refine EvC.scope ?_ | refine EvC.block ?_ | (refine EvC.skip ?_; try simp only [z02]) | (refine EvC.exit ?_) | (refine EvC.ret ?_; try simp only [z01, z00]) | (refine EvC.reg ?_; simp (config := { maxSteps := 2000000 }) (disch := first | omega | rfl) only [sB, Nat.reduceEqDiff, z0r, ld24, ln24, t2, t5, t6, q1, decl hlt, z19 h0]) | (refine EvC.drw (id := 14) [([(0, 0), (1, 0), (2, 0), (3, 0), (4, 0), (5, 0), (6, 0), (7, 0), (8, 0), (9, 0)], some 10), ([(11, 1)], none)] ?_ ?_; kernel_rfl; simp (config := { maxSteps := 2000000 }) (disch := first | omega | rfl) only [sD, sB, Nat.reduceEqDiff, Nat.reduceAdd, reduceCtorEq, z0r, ld24, ia24, ld26, cl53, t2, t3, t6, q1, q2, hld1, hld2, isAlloc, isRead, reduceCtorEq]) | (refine EvC.condT ?_ ?_; simp (config := { maxSteps := 2000000 }) (disch := first | omega | rfl) only [sB, Nat.reduceEqDiff]; refine z03 ?_))
          have hb := hx'.bump 12
          have hs := z1h (List.getElem?_eq_getElem hlt)
          refine (ih (t := t.args[i]) (t' := t'.args[i]) (by omega) (hr1.mono hb hw) (hr2.mono hb hw) (hn.args _ (List.getElem_mem _)) (hn'.args _ (List.getElem_mem _)) hb.wf).mono ?_
          rintro v H4 ⟨rfl, hx4⟩
          have hx5 := hb.trans hx4
          have hm := rl.max
          repeat' (first | refine EvC.seq ?_ | refine EvC.scope ?_ | refine EvC.block ?_ | (refine EvC.skip ?_) | (refine EvC.exit ?_) | (refine EvC.ret ?_; try simp only [z01, z00]) | (refine EvC.reg ?_; simp (config := { maxSteps := 2000000 }) (disch := first | omega | rfl) only [sB, Nat.reduceEqDiff, t6, z06]) | (refine z0n ?_; simp (config := { maxSteps := 2000000 }) (disch := first | omega | rfl) only [sD, sB, Nat.reduceEqDiff, isAlloc, isRead]))
          refine ⟨t.args.length - (i + 1), by omega, _, _, i + 1, ordT t.args[i] t'.args[i], rfl, rfl, by omega, .inl hh0, fun _ => ?_, (by simp only [sG, Nat.reduceEqDiff, t2] <;> rfl), (by simp only [sG, Nat.reduceEqDiff, t3] <;> rfl), (by simp only [sG, Nat.reduceEqDiff] <;> rfl), (by simp only [sB, Nat.reduceEqDiff] <;> rfl), hx4.get hb.wf gp', hx4.get hb.wf gq', hx5⟩
          rw [← hc hh0, if_pos h0, zb8 (List.getElem?_eq_getElem hlt) (List.getElem?_eq_getElem hlt')]
        · repeat' (first | refine EvC.seq ?_ | refine EvC.scope ?_ | refine EvC.block ?_ | (refine EvC.skip ?_) | (refine EvC.exit ?_; try simp only [sB]) | (refine EvC.ret ?_; try simp only [z01, z00]) | (refine EvC.reg ?_; simp (config := { maxSteps := 2000000 }) (disch := first | omega | rfl) only [sB, Nat.reduceEqDiff, z0r, ld24, ln24, t2, t5, t6, q1, decl hlt, z0i h0]) | (refine EvC.condT ?_ ?_; simp (config := { maxSteps := 2000000 }) (disch := first | omega | rfl) only [sB, Nat.reduceEqDiff]; refine z03 ?_) | (refine EvC.condF ?_ ?_; simp (config := { maxSteps := 2000000 }) (disch := first | omega | rfl) only [sB, Nat.reduceEqDiff]; refine z03 ?_))
          refine z04 rfl (by simp only [sB, Nat.reduceEqDiff] <;> rfl) ⟨?_, hx'⟩
          rw [fin 0]
          by_cases hh0 : headZ t t' = 0
          · rw [if_pos hh0, ← hc hh0, if_neg h0]
          · rw [if_neg hh0]; rcases hh with h | h
            · exact absurd h hh0
            · rw [h]
      · repeat' (first | refine EvC.seq ?_ | refine EvC.scope ?_ | refine EvC.block ?_ | (refine EvC.skip ?_) | (refine EvC.exit ?_; try simp only [sB]) | (refine EvC.ret ?_; try simp only [z01, z00]) | (refine EvC.reg ?_; simp (config := { maxSteps := 2000000 }) (disch := first | omega | rfl) only [sB, Nat.reduceEqDiff, z0r, ld24, ln24, t2, t5, t6, q1, decn hlt, Bool.false_eq_true]) | (refine EvC.condT ?_ ?_; simp (config := { maxSteps := 2000000 }) (disch := first | omega | rfl) only [sB, Nat.reduceEqDiff]; refine z03 ?_) | (refine EvC.condF ?_ ?_; simp (config := { maxSteps := 2000000 }) (disch := first | omega | rfl) only [sB, Nat.reduceEqDiff]; refine z03 ?_))
        refine z04 rfl (by simp only [sB, Nat.reduceEqDiff] <;> rfl) ⟨?_, hx'⟩
        rw [fin 0]
        by_cases hh0 : headZ t t' = 0
        · rw [if_pos hh0, ← hc hh0, List.drop_of_length_le (by omega)]
          by_cases h0 : w = 0
          · rw [if_pos h0, ordL, h0]
          · rw [if_neg h0]
        · rw [if_neg hh0]; rcases hh with h | h
          · exact absurd h hh0
          · rw [h]
    · refine ⟨_, _, 0, headZ t t', rfl, rfl, by omega, .inr rfl, fun h => by rw [if_pos h]; rfl, (by simp only [sG, Nat.reduceEqDiff, reduceCtorEq] <;> rfl), (by simp only [sG, Nat.reduceEqDiff, reduceCtorEq] <;> rfl), (by simp only [sB, Nat.reduceEqDiff, reduceCtorEq] <;> rfl), (by simp only [sB, Nat.reduceEqDiff, reduceCtorEq] <;> rfl), gp3, gq3, hx23⟩
  · repeat' (first | refine EvC.seq ?_ | refine EvC.scope ?_ | refine EvC.block ?_ | (refine EvC.skip ?_) | (refine EvC.exit ?_) | (refine EvC.ret ?_; try simp only [z01, z00]) | (refine EvC.reg ?_; simp (config := { maxSteps := 2000000 }) (disch := first | omega | rfl) only [sB, Nat.reduceEqDiff, reduceCtorEq, z0w, ld3, z2x hk, q1, q2]) | (refine EvC.drw (id := 2) [([(0, 0), (1, 0)], some 2), ([(3, 0), (4, 0)], some 5), ([], some 6), ([(7, 3)], none)] ?_ ?_; kernel_rfl; simp (config := { maxSteps := 2000000 }) (disch := first | omega | rfl) only [sD, sB, Nat.reduceEqDiff, Nat.reduceAdd, reduceCtorEq, z0w, ld3, cl86, q1, isAlloc, isRead, reduceCtorEq]) | (refine EvC.condT ?_ ?_; simp (config := { maxSteps := 2000000 }) (disch := first | omega | rfl) only [sB, Nat.reduceEqDiff, reduceCtorEq]; refine z03 ?_))
    refine zhl.mono ?_
    rintro v H1 ⟨rfl, rfl⟩
    repeat' (first | refine EvC.seq ?_ | refine EvC.scope ?_ | refine EvC.block ?_ | (refine EvC.skip ?_) | (refine EvC.exit ?_) | (refine EvC.ret ?_; try simp only [z01, z00]) | (refine z0n ?_; simp (config := { maxSteps := 2000000 }) (disch := first | omega | rfl) only [sV, sD, sB, Nat.reduceEqDiff, reduceCtorEq, z0w, ld3, cl86, q2, isAlloc, isRead, reduceCtorEq]))
    refine zhl.mono ?_
    rintro v H2 ⟨rfl, rfl⟩
    repeat' (first | refine EvC.seq ?_ | refine EvC.scope ?_ | refine EvC.block ?_ | (refine EvC.skip ?_) | (refine EvC.exit ?_) | (refine EvC.ret ?_; try simp only [z01, z00]) | (refine z0n ?_; simp (config := { maxSteps := 2000000 }) (disch := first | omega | rfl) only [sD, sB, Nat.reduceEqDiff, reduceCtorEq, cl83, reduceCtorEq]))
    refine z7a.mono ?_
    rintro v H3 ⟨rfl, rfl⟩
    repeat' (first | refine EvC.seq ?_ | refine EvC.scope ?_ | refine EvC.block ?_ | (refine EvC.skip ?_) | (refine EvC.exit ?_) | (refine EvC.ret ?_; try simp only [z01, z00]) | (refine z0n ?_; simp (config := { maxSteps := 2000000 }) (disch := first | omega | rfl) only [sD, sB, Nat.reduceEqDiff, Nat.reduceAdd, reduceCtorEq, isAlloc, isRead, reduceCtorEq]))
    exact z04 rfl (by simp only [sB, Nat.reduceEqDiff, reduceCtorEq] <;> rfl) ⟨by rw [z2l, if_pos hk], hx2.bump _⟩
end Go.Proofs.YtlllbkjiadcloaaDoor.hb
end

-- Z12
section
namespace Go.Proofs.YtlllbkjiadcloaaDoor.hb
open Go Go.RowKit Go.Hb
variable {ok : Ok}
set_option maxRecDepth 10000
attribute [local irreducible] LX LG EL STG SOP SGO SGD SAL SRD SEF SEG SLK SCK ES
set_option maxHeartbeats 4000000 in
theorem zbe {m : Nat} : ∀ {t t' : Tm} {cs cs' : List Value} {H : Heap}, SizeOf.sizeOf t < m → RepT H t cs → RepT H t' cs' → Fine t → Fine t' → H.wf →
    EvF Tryd.prog okT 19 [.agg ⟨cs⟩, .agg ⟨cs'⟩] H fun v H' => v = .int .i64 (ordT t t') ∧ HX H H' := by
  induction m with
  | zero => intro t t' cs cs' H h; omega
  | succ m ih =>
  intro t t' cs cs' H hsz r r' hn hn' hw
  have kk := z28 (Fine.node hn)
  have kk' := z28 (Fine.node hn')
  obtain ⟨a, c, cells, rfl, b1, b2, b3, b4, b5, rl⟩ := r.six
  obtain ⟨a', c', cells', rfl, b1', b2', b3', b4', b5', rl'⟩ := r'.six
  refine EvF.enter rfl Tryd.func19 (by decide) rfl ?_
  (repeat refine EvC.seq ?_); refine EvC.reg ?_; simp (config := { maxSteps := 2000000 }) (disch := first | omega | rfl) only [sB, initTm, dBox, Nat.reduceEqDiff, Value.cells, one, reduceCtorEq]
  obtain ⟨H2, e2, hx2, gp, gq, hnx, hw2⟩ := new2 hw (.row (six t a c) 26) (.row (six t' a' c') 26)
  simp only [e2]
  have q1 := row6 gp
  have q2 := row6 gq
  clear e2
  by_cases hk : t.kind = t'.kind
  · by_cases k1 : t.kind = 1
    · repeat' (first | refine EvC.seq ?_ | refine EvC.scope ?_ | refine EvC.block ?_ | (refine EvC.skip ?_; try simp only [z02]) | (refine EvC.exit ?_) | (refine EvC.ret ?_; try simp only [z01, z00]) | (refine EvC.reg ?_; simp (config := { maxSteps := 2000000 }) (disch := first | omega | rfl) only [sB, Nat.reduceEqDiff, reduceCtorEq, z0w, ld3, cl55, zaj, z10 hk, q1, q2, z19 k1]) | (refine EvC.condT ?_ ?_; simp (config := { maxSteps := 2000000 }) (disch := first | omega | rfl) only [sB, Nat.reduceEqDiff, reduceCtorEq]; refine z03 ?_) | (refine EvC.condF ?_ ?_; simp (config := { maxSteps := 2000000 }) (disch := first | omega | rfl) only [sB, Nat.reduceEqDiff, reduceCtorEq]; refine z03 ?_))
      refine z7b.mono ?_
      rintro v H1 ⟨rfl, rfl⟩
      repeat' (first | refine EvC.seq ?_ | refine EvC.scope ?_ | refine EvC.block ?_ | (refine EvC.skip ?_) | (refine EvC.exit ?_) | (refine EvC.ret ?_; try simp only [z01, z00]))
      exact z04 rfl (by simp only [sB, Nat.reduceEqDiff, reduceCtorEq] <;> rfl) ⟨by rw [z2l, if_neg (fun h => h hk), if_pos k1], hx2⟩
    by_cases k3 : t.kind = 3
    · repeat' (first | refine EvC.seq ?_ | refine EvC.scope ?_ | refine EvC.block ?_ | (refine EvC.skip ?_; try simp only [z02]) | (refine EvC.exit ?_) | (refine EvC.ret ?_; try simp only [z01, z00]) | (refine EvC.reg ?_; simp (config := { maxSteps := 2000000 }) (disch := first | omega | rfl) only [sB, Nat.reduceEqDiff, reduceCtorEq, z0w, ld3, z6y, ld9, cl57, z10 hk, q1, q2, z0i k1, z19 k3]) | (refine EvC.condT ?_ ?_; simp (config := { maxSteps := 2000000 }) (disch := first | omega | rfl) only [sB, Nat.reduceEqDiff, reduceCtorEq]; refine z03 ?_) | (refine EvC.condF ?_ ?_; simp (config := { maxSteps := 2000000 }) (disch := first | omega | rfl) only [sB, Nat.reduceEqDiff, reduceCtorEq]; refine z03 ?_))
      refine (zmc b3 b3' (zbd (kk.2.2.2.2.2.1 k3)) (zbd (kk'.2.2.2.2.2.1 (hk ▸ k3)))).mono ?_
      rintro v H1 ⟨rfl, rfl⟩
      repeat' (first | refine EvC.seq ?_ | refine EvC.scope ?_ | refine EvC.block ?_ | (refine EvC.skip ?_) | (refine EvC.exit ?_) | (refine EvC.ret ?_; try simp only [z01, z00]))
      exact z04 rfl (by simp only [sB, Nat.reduceEqDiff, reduceCtorEq] <;> rfl) ⟨by rw [z2l, if_neg (fun h => h hk), if_neg k1, if_pos k3], hx2⟩
    by_cases k4 : t.kind = 4
    · have p1 := z9c b4 (kk.2.2.2.2.2.2.1 k4)
      have p2 := z9c b4' (kk'.2.2.2.2.2.2.1 (hk ▸ k4))
      repeat' (first | refine EvC.seq ?_ | refine EvC.scope ?_ | refine EvC.block ?_ | (refine EvC.skip ?_; try simp only [z02]) | (refine EvC.exit ?_) | (refine EvC.ret ?_; try simp only [z01, z00]) | (refine EvC.reg ?_; simp (config := { maxSteps := 2000000 }) (disch := first | omega | rfl) only [sB, Nat.reduceEqDiff, reduceCtorEq, z0w, ld3, z6z, ld23, cl58, z10 hk, q1, q2, z0i k1, z0i k3, z19 k4]) | (refine EvC.condT ?_ ?_; simp (config := { maxSteps := 2000000 }) (disch := first | omega | rfl) only [sB, Nat.reduceEqDiff, reduceCtorEq]; refine z03 ?_) | (refine EvC.condF ?_ ?_; simp (config := { maxSteps := 2000000 }) (disch := first | omega | rfl) only [sB, Nat.reduceEqDiff, reduceCtorEq]; refine z03 ?_))
      rw [← p1.2.2.2.2, ← p2.2.2.2.2]
      refine (zme p1.2.2.2.1 p2.2.2.2.1).mono ?_
      rintro v H1 ⟨rfl, rfl⟩
      repeat' (first | refine EvC.seq ?_ | refine EvC.scope ?_ | refine EvC.block ?_ | (refine EvC.skip ?_) | (refine EvC.exit ?_) | (refine EvC.ret ?_; try simp only [z01, z00]))
      exact z04 rfl (by simp only [sB, Nat.reduceEqDiff, reduceCtorEq] <;> rfl) ⟨by rw [z2l, if_neg (fun h => h hk), if_neg k1, if_neg k3, if_pos k4, p1.2.2.2.2, p2.2.2.2.2], hx2⟩
    have fin : ordT t t' = if headZ t t' = 0 then ordL t.args t'.args else headZ t t' := by rw [z2l, if_neg (fun h => h hk), if_neg k1, if_neg k3, if_neg k4]
    by_cases k2 : t.kind = 2
    · repeat' (first | refine EvC.seq ?_ | refine EvC.scope ?_ | refine EvC.block ?_ | (refine EvC.skip ?_; try simp only [z02]) | (refine EvC.exit ?_) | (refine EvC.ret ?_; try simp only [z01, z00]) | (refine EvC.reg ?_; simp (config := { maxSteps := 2000000 }) (disch := first | omega | rfl) only [sB, Nat.reduceEqDiff, reduceCtorEq, z0w, ld3, ld9, z2j, cl59, z10 hk, q1, q2, z0i k1, z0i k3, z0i k4, z19 k2]) | (refine EvC.condT ?_ ?_; simp (config := { maxSteps := 2000000 }) (disch := first | omega | rfl) only [sB, Nat.reduceEqDiff, reduceCtorEq]; refine z03 ?_) | (refine EvC.condF ?_ ?_; simp (config := { maxSteps := 2000000 }) (disch := first | omega | rfl) only [sB, Nat.reduceEqDiff, reduceCtorEq]; refine z03 ?_))
      refine z5z.mono ?_
      rintro v H1 ⟨rfl, rfl⟩
      repeat' (first | refine EvC.seq ?_ | refine EvC.scope ?_ | refine EvC.block ?_ | (refine EvC.skip ?_) | (refine EvC.exit ?_) | (refine EvC.ret ?_; try simp only [z01, z00]))
      refine z04 rfl (by simp only [sB, Nat.reduceEqDiff, reduceCtorEq] <;> rfl) ⟨?_, hx2⟩
      have e1 := (z3j kk.2.2.1).2.2.2.2 (by omega)
      have e2 := (z3j kk'.2.2.1).2.2.2.2 (by omega)
      rw [fin]
      unfold headZ
      rw [e1, e2, ordL]
      simp [orZ, cmpZ]
    by_cases hl : t.args.length = t'.args.length
    · have hl' : (t.args.length : Int) = t'.args.length := by omega
      have hz : headZ t t' = cmpS t.name t'.name := by unfold headZ; rw [z15.2 hl', orZ, if_pos rfl]
      repeat' (first | refine EvC.seq ?_ | refine EvC.scope ?_ | refine EvC.block ?_ | (refine EvC.skip ?_; try simp only [sA]) | (refine EvC.exit ?_) | (refine EvC.ret ?_; try simp only [z01, z00]) | (refine EvC.reg ?_; simp (config := { maxSteps := 2000000 }) (disch := first | omega | rfl) only [sB, Nat.reduceEqDiff, reduceCtorEq, z0w, ld3, ld9, z2j, cl59, z0r, ld24, ln24, z10 hk, q1, q2, z0i k1, z0i k3, z0i k4, z0i k2, z10 hl']) | (refine EvC.condT ?_ ?_; simp (config := { maxSteps := 2000000 }) (disch := first | omega | rfl) only [sB, Nat.reduceEqDiff, reduceCtorEq]; refine z03 ?_) | (refine EvC.condF ?_ ?_; simp (config := { maxSteps := 2000000 }) (disch := first | omega | rfl) only [sB, Nat.reduceEqDiff, reduceCtorEq]; refine z03 ?_))
      refine z5z.mono ?_
      rintro v H1 ⟨rfl, rfl⟩
      repeat' (first | refine EvC.seq ?_ | refine EvC.scope ?_ | refine EvC.block ?_ | (refine EvC.skip ?_) | (refine EvC.exit ?_) | (refine EvC.ret ?_; try simp only [z01, z00]) | (refine EvC.reg ?_; simp (config := { maxSteps := 2000000 }) (disch := first | omega | rfl) only [sA]))
      refine EvC.loop (fun k st => ∃ tm H' i w, st = ⟨tm, [], H'⟩ ∧ k = t.args.length - i ∧ i ≤ t.args.length ∧ (headZ t t' = 0 ∨ headZ t t' = w) ∧ (headZ t t' = 0 → (if w = 0 then ordL (t.args.drop i) (t'.args.drop i) else w) = ordL t.args t'.args) ∧
        tm.get 2 = some (.pointer (some ⟨H.next, 0, none⟩)) ∧ tm.get 3 = some (.pointer (some ⟨H.next + 1, 0, none⟩)) ∧ tm.get 5 = some (.int .i64 w) ∧ tm.get 6 = some (.int .i64 (i : Nat)) ∧
        H'.get H.next = some (.row (six t a c) 26) ∧ H'.get (H.next + 1) = some (.row (six t' a' c') 26) ∧ HX H H') ?_ t.args.length _ ?_
      · rintro k st ⟨tm, H', i, w, rfl, rfl, hi, hh, hc, t2, t3, t5, t6, gp', gq', hx'⟩
        have q1 := row6 gp'
        have q2 := row6 gq'
        by_cases hlt : i < t.args.length
        · by_cases h0 : w = 0
          · have hh0 : headZ t t' = 0 := by rcases hh with h | h; exact h; rw [h]; exact h0
            have hlt' : i < t'.args.length := by rw [← z62 hh0]; exact hlt
            obtain ⟨b, o, a1, c1, rfl, hld, hr1⟩ := rl.el hlt
            obtain ⟨b', o', a2, c2, rfl, hld', hr2⟩ := rl'.el hlt'
            have hld1 := hx'.load hw hld
            have hld2 := hx'.load hw hld'
            repeat' (first | refine EvC.seq ?_ | refine EvC.scope ?_ | refine EvC.block ?_ | (refine EvC.skip ?_; try simp only [z02]) | (refine EvC.exit ?_) | (refine EvC.ret ?_; try simp only [z01, z00]) | (refine EvC.reg ?_; simp (config := { maxSteps := 2000000 }) (disch := first | omega | rfl) only [sB, Nat.reduceEqDiff, z0r, ld24, ln24, t2, t5, t6, q1, decl hlt, z19 h0]) | (refine EvC.drw (id := 18) [([(0, 0), (1, 0), (2, 0), (3, 0), (4, 0), (5, 0), (6, 0), (7, 0), (8, 0), (9, 0)], some 10), ([(11, 1)], none)] ?_ ?_; kernel_rfl; simp (config := { maxSteps := 2000000 }) (disch := first | omega | rfl) only [sD, sB, Nat.reduceEqDiff, Nat.reduceAdd, reduceCtorEq, z0r, ld24, ia24, ld26, cl19, t2, t3, t6, q1, q2, hld1, hld2, isAlloc, isRead, reduceCtorEq]) | (refine EvC.condT ?_ ?_; simp (config := { maxSteps := 2000000 }) (disch := first | omega | rfl) only [sB, Nat.reduceEqDiff]; refine z03 ?_))
            have hb := hx'.bump 12
            have hs := z1h (List.getElem?_eq_getElem hlt)
            refine (ih (t := t.args[i]) (t' := t'.args[i]) (by omega) (hr1.mono hb hw) (hr2.mono hb hw) (hn.args _ (List.getElem_mem _)) (hn'.args _ (List.getElem_mem _)) hb.wf).mono ?_
            rintro v H4 ⟨rfl, hx4⟩
            have hx5 := hb.trans hx4
            have hm := rl.max
            repeat' (first | refine EvC.seq ?_ | refine EvC.scope ?_ | refine EvC.block ?_ | (refine EvC.skip ?_) | (refine EvC.exit ?_) | (refine EvC.ret ?_; try simp only [z01, z00]) | (refine EvC.reg ?_; simp (config := { maxSteps := 2000000 }) (disch := first | omega | rfl) only [sB, Nat.reduceEqDiff, t6, z06]) | (refine z0n ?_; simp (config := { maxSteps := 2000000 }) (disch := first | omega | rfl) only [sD, sB, Nat.reduceEqDiff, isAlloc, isRead]))
            refine ⟨t.args.length - (i + 1), by omega, _, _, i + 1, ordT t.args[i] t'.args[i], rfl, rfl, by omega, .inl hh0, fun _ => ?_, (by simp only [sG, Nat.reduceEqDiff, t2] <;> rfl), (by simp only [sG, Nat.reduceEqDiff, t3] <;> rfl), (by simp only [sG, Nat.reduceEqDiff] <;> rfl), (by simp only [sB, Nat.reduceEqDiff] <;> rfl), hx4.get hb.wf gp', hx4.get hb.wf gq', hx5⟩
            rw [← hc hh0, if_pos h0, zb8 (List.getElem?_eq_getElem hlt) (List.getElem?_eq_getElem hlt')]
          · repeat' (first | refine EvC.seq ?_ | refine EvC.scope ?_ | refine EvC.block ?_ | (refine EvC.skip ?_) | (refine EvC.exit ?_; try simp only [sB]) | (refine EvC.ret ?_; try simp only [z01, z00]) | (refine EvC.reg ?_; simp (config := { maxSteps := 2000000 }) (disch := first | omega | rfl) only [sB, Nat.reduceEqDiff, z0r, ld24, ln24, t2, t5, t6, q1, decl hlt, z0i h0]) | (refine EvC.condT ?_ ?_; simp (config := { maxSteps := 2000000 }) (disch := first | omega | rfl) only [sB, Nat.reduceEqDiff]; refine z03 ?_) | (refine EvC.condF ?_ ?_; simp (config := { maxSteps := 2000000 }) (disch := first | omega | rfl) only [sB, Nat.reduceEqDiff]; refine z03 ?_))
            refine z04 rfl (by simp only [sB, Nat.reduceEqDiff] <;> rfl) ⟨?_, hx'⟩
            rw [fin]
            by_cases hh0 : headZ t t' = 0
            · rw [if_pos hh0, ← hc hh0, if_neg h0]
            · rw [if_neg hh0]; rcases hh with h | h
              · exact absurd h hh0
              · rw [h]
        · repeat' (first | refine EvC.seq ?_ | refine EvC.scope ?_ | refine EvC.block ?_ | (refine EvC.skip ?_) | (refine EvC.exit ?_; try simp only [sB]) | (refine EvC.ret ?_; try simp only [z01, z00]) | (refine EvC.reg ?_; simp (config := { maxSteps := 2000000 }) (disch := first | omega | rfl) only [sB, Nat.reduceEqDiff, z0r, ld24, ln24, t2, t5, t6, q1, decn hlt, Bool.false_eq_true]) | (refine EvC.condT ?_ ?_; simp (config := { maxSteps := 2000000 }) (disch := first | omega | rfl) only [sB, Nat.reduceEqDiff]; refine z03 ?_) | (refine EvC.condF ?_ ?_; simp (config := { maxSteps := 2000000 }) (disch := first | omega | rfl) only [sB, Nat.reduceEqDiff]; refine z03 ?_))
          refine z04 rfl (by simp only [sB, Nat.reduceEqDiff] <;> rfl) ⟨?_, hx'⟩
          rw [fin]
          by_cases hh0 : headZ t t' = 0
          · rw [if_pos hh0, ← hc hh0, List.drop_of_length_le (by omega)]
            by_cases h0 : w = 0
            · rw [if_pos h0, ordL, h0]
            · rw [if_neg h0]
          · rw [if_neg hh0]; rcases hh with h | h
            · exact absurd h hh0
            · rw [h]
      · refine ⟨_, _, 0, headZ t t', rfl, rfl, by omega, .inr rfl, fun h => by rw [if_pos h]; rfl, (by simp only [sG, Nat.reduceEqDiff, reduceCtorEq] <;> rfl), (by simp only [sG, Nat.reduceEqDiff, reduceCtorEq] <;> rfl), by rw [hz]; first | (simp only [sG, Nat.reduceEqDiff, reduceCtorEq]; rfl) | simp only [sG, Nat.reduceEqDiff, reduceCtorEq], (by simp only [sB, Nat.reduceEqDiff, reduceCtorEq] <;> rfl), gp, gq, hx2⟩
    · have hl' : (t.args.length : Int) ≠ t'.args.length := by omega
      repeat' (first | refine EvC.seq ?_ | refine EvC.scope ?_ | refine EvC.block ?_ | (refine EvC.skip ?_; try simp only [sA]) | (refine EvC.exit ?_) | (refine EvC.ret ?_; try simp only [z01, z00]) | (refine EvC.reg ?_; simp (config := { maxSteps := 2000000 }) (disch := first | omega | rfl) only [sB, Nat.reduceEqDiff, reduceCtorEq, z0w, ld3, cl55, z0r, ld24, ln24, z10 hk, q1, q2, z0i k1, z0i k3, z0i k4, z0i k2, z2x hl']) | (refine EvC.condT ?_ ?_; simp (config := { maxSteps := 2000000 }) (disch := first | omega | rfl) only [sB, Nat.reduceEqDiff, reduceCtorEq]; refine z03 ?_) | (refine EvC.condF ?_ ?_; simp (config := { maxSteps := 2000000 }) (disch := first | omega | rfl) only [sB, Nat.reduceEqDiff, reduceCtorEq]; refine z03 ?_))
      refine z7b.mono ?_
      rintro v H1 ⟨rfl, rfl⟩
      repeat' (first | refine EvC.seq ?_ | refine EvC.scope ?_ | refine EvC.block ?_ | (refine EvC.skip ?_) | (refine EvC.exit ?_) | (refine EvC.ret ?_; try simp only [z01, z00]))
      refine z04 rfl (by simp only [sB, Nat.reduceEqDiff, reduceCtorEq] <;> rfl) ⟨?_, hx2⟩
      have h0 : cmpZ (t.args.length : Int) t'.args.length ≠ 0 := fun h => hl' (z15.1 h)
      have hz : headZ t t' = cmpZ t.args.length t'.args.length := by unfold headZ; rw [orZ, if_neg h0]
      rw [fin, hz, if_neg h0]
  · repeat' (first | refine EvC.seq ?_ | refine EvC.scope ?_ | refine EvC.block ?_ | (refine EvC.skip ?_) | (refine EvC.exit ?_) | (refine EvC.ret ?_; try simp only [z01, z00]) | (refine EvC.reg ?_; simp (config := { maxSteps := 2000000 }) (disch := first | omega | rfl) only [sB, Nat.reduceEqDiff, reduceCtorEq, z0w, ld3, z2x hk, q1, q2]) | (refine EvC.drw (id := 2) [([(0, 0), (1, 0)], some 2), ([(3, 0), (4, 0)], some 5), ([], some 6), ([(7, 3)], none)] ?_ ?_; kernel_rfl; simp (config := { maxSteps := 2000000 }) (disch := first | omega | rfl) only [sD, sB, Nat.reduceEqDiff, Nat.reduceAdd, reduceCtorEq, z0w, ld3, cl56, q1, isAlloc, isRead, reduceCtorEq]) | (refine EvC.condT ?_ ?_; simp (config := { maxSteps := 2000000 }) (disch := first | omega | rfl) only [sB, Nat.reduceEqDiff, reduceCtorEq]; refine z03 ?_))
    refine ze3.mono ?_
    rintro v H1 ⟨rfl, rfl⟩
    repeat' (first | refine EvC.seq ?_ | refine EvC.scope ?_ | refine EvC.block ?_ | (refine EvC.skip ?_) | (refine EvC.exit ?_) | (refine EvC.ret ?_; try simp only [z01, z00]) | (refine z0n ?_; simp (config := { maxSteps := 2000000 }) (disch := first | omega | rfl) only [sV, sD, sB, Nat.reduceEqDiff, reduceCtorEq, z0w, ld3, cl56, q2, isAlloc, isRead, reduceCtorEq]))
    refine ze3.mono ?_
    rintro v H2 ⟨rfl, rfl⟩
    repeat' (first | refine EvC.seq ?_ | refine EvC.scope ?_ | refine EvC.block ?_ | (refine EvC.skip ?_) | (refine EvC.exit ?_) | (refine EvC.ret ?_; try simp only [z01, z00]) | (refine z0n ?_; simp (config := { maxSteps := 2000000 }) (disch := first | omega | rfl) only [sD, sB, Nat.reduceEqDiff, reduceCtorEq, cl55, reduceCtorEq]))
    refine z7b.mono ?_
    rintro v H3 ⟨rfl, rfl⟩
    repeat' (first | refine EvC.seq ?_ | refine EvC.scope ?_ | refine EvC.block ?_ | (refine EvC.skip ?_) | (refine EvC.exit ?_) | (refine EvC.ret ?_; try simp only [z01, z00]) | (refine z0n ?_; simp (config := { maxSteps := 2000000 }) (disch := first | omega | rfl) only [sD, sB, Nat.reduceEqDiff, Nat.reduceAdd, reduceCtorEq, isAlloc, isRead, reduceCtorEq]))
    exact z04 rfl (by simp only [sB, Nat.reduceEqDiff, reduceCtorEq] <;> rfl) ⟨by rw [z2l, if_pos hk], hx2.bump _⟩
end Go.Proofs.YtlllbkjiadcloaaDoor.hb
end

-- Z13
section
namespace Go.Proofs.YtlllbkjiadcloaaDoor.hb
open Go Go.RowKit Go.Hb
variable {ok : Ok}
set_option maxRecDepth 10000
attribute [local irreducible] LX LG EL STG SOP SGO SGD SAL SRD SEF SEG SLK SCK ES
def chkL : List Tm → Int
  | [] => 0
  | t :: l => if checkS t = 0 then chkL l else checkS t
theorem z54 {l : List Tm} {i : Nat} (h : i < l.length) : chkL (l.drop i) = if checkS l[i] = 0 then chkL (l.drop (i + 1)) else checkS l[i] := by
  rw [List.drop_eq_getElem_cons h, chkL]
theorem z1v : ∀ {l : List Tm}, chkL l = 0 → ∀ t ∈ l, checkS t = 0
  | [], _, t, h => by simp at h
  | u :: l, h, t, ht => by
    rw [chkL] at h
    split at h
    · rename_i h0
      rcases List.mem_cons.1 ht with rfl | ht
      · exact h0
      · exact z1v h t ht
    · rename_i h0; exact absurd h h0
theorem zbf {l : List Tm} {a : Option Addr} {c : Nat} {cells : Nat → List Value} {H : Heap} (rl : RepL H l a c cells) (hw : H.wf) :
    EvF Tryd.prog okT 52 [.slice a l.length c] H fun v H' => v = .int .i64 (chkL l) ∧ HX H H' := by
  have hm := rl.max
  refine EvF.enter rfl Tryd.func52 (by decide) rfl ?_
  repeat' (first | refine EvC.seq ?_ | refine EvC.scope ?_ | refine EvC.block ?_ | (refine EvC.skip ?_) | (refine EvC.exit ?_) | (refine EvC.ret ?_; try simp only [z01, z00]) | (refine EvC.reg ?_; simp (config := { maxSteps := 2000000 }) (disch := first | omega | rfl) only [sB, initTm, Nat.reduceEqDiff, reduceCtorEq, ln24]))
  refine EvC.loop (fun k st => ∃ tm H' i, st = ⟨tm, [], H'⟩ ∧ k = l.length - i ∧ i ≤ l.length ∧ chkL (l.drop i) = chkL l ∧ tm.get 6 = some (.slice a l.length c) ∧ tm.get 7 = some (.int .i64 l.length) ∧ tm.get 8 = some (.int .i64 (i : Nat)) ∧ HX H H') ?_ l.length _ ?_
  · rintro k st ⟨tm, H', i, rfl, rfl, hi, hc, g6, g7, g8, hx⟩
    by_cases hlt : i < l.length
    · obtain ⟨b, o, a1, c1, rfl, hld, hr⟩ := rl.el hlt
      have hld1 := hx.load hw hld
      repeat' (first | refine EvC.seq ?_ | refine EvC.scope ?_ | refine EvC.block ?_ | (refine EvC.skip ?_; try simp only [z02]) | (refine EvC.exit ?_) | (refine EvC.ret ?_; try simp only [z01, z00]) | (refine EvC.reg ?_; simp (config := { maxSteps := 2000000 }) (disch := first | omega | rfl) only [sB, dAlloc, Nat.reduceEqDiff, Nat.reduceAdd, one, cutC, ia24, ld26, zr26, st26, cl15, g6, g7, g8, decl hlt, hld1]) | (refine EvC.condT ?_ ?_; simp (config := { maxSteps := 2000000 }) (disch := first | omega | rfl) only [sB]; refine z03 ?_))
      have hx2 := (hx.new (some (.row [.int .i64 0, .string ByteArray.empty, .string ByteArray.empty, .int .u64 0, .int .i64 0, .slice none 0 0] 26))).put (i := H'.next) hx.next (Nat.lt_succ_self _) (some (.row (six l[i] a1 c1) 26))
      refine (zcd _ _ _ (hr.mono hx2 hw) hx2.wf).mono ?_
      rintro v H3 ⟨rfl, hx3⟩
      by_cases h0 : checkS l[i] = 0
      · repeat' (first | refine EvC.seq ?_ | refine EvC.scope ?_ | refine EvC.block ?_ | (refine EvC.skip ?_; try simp only [sA]) | (refine EvC.exit ?_) | (refine EvC.ret ?_; try simp only [z01, z00]) | (refine EvC.reg ?_; simp (config := { maxSteps := 2000000 }) (disch := first | omega | rfl) only [sB, Nat.reduceEqDiff, g8, z10 h0, z06]) | (refine EvC.condT ?_ ?_; simp (config := { maxSteps := 2000000 }) (disch := first | omega | rfl) only [sB, Nat.reduceEqDiff]; refine z03 ?_) | (refine EvC.condF ?_ ?_; simp (config := { maxSteps := 2000000 }) (disch := first | omega | rfl) only [sB, Nat.reduceEqDiff]; refine z03 ?_))
        exact ⟨l.length - (i + 1), by omega, _, _, i + 1, rfl, rfl, by omega, by rw [← hc, z54 hlt, if_pos h0], (by simp only [sG, Nat.reduceEqDiff, g6] <;> rfl), (by simp only [sG, Nat.reduceEqDiff, g7] <;> rfl), (by simp only [sB, Nat.reduceEqDiff] <;> rfl), hx2.trans hx3⟩
      · repeat' (first | refine EvC.seq ?_ | refine EvC.scope ?_ | refine EvC.block ?_ | (refine EvC.skip ?_) | (refine EvC.exit ?_) | (refine EvC.ret ?_; try simp only [z01, z00]) | (refine EvC.reg ?_; simp (config := { maxSteps := 2000000 }) (disch := first | omega | rfl) only [sB, Nat.reduceEqDiff, z2x h0]) | (refine EvC.condT ?_ ?_; simp (config := { maxSteps := 2000000 }) (disch := first | omega | rfl) only [sB, Nat.reduceEqDiff]; refine z03 ?_))
        exact z04 rfl (by simp only [sB, Nat.reduceEqDiff] <;> rfl) ⟨by rw [← hc, z54 hlt, if_neg h0], hx2.trans hx3⟩
    · repeat' (first | refine EvC.seq ?_ | refine EvC.scope ?_ | refine EvC.block ?_ | (refine EvC.skip ?_) | (refine EvC.exit ?_; try simp only [sB]) | (refine EvC.ret ?_; try simp only [z01, z00]) | (refine EvC.reg ?_; simp (config := { maxSteps := 2000000 }) (disch := first | omega | rfl) only [sA, g7, g8, decn hlt]) | (refine EvC.condT ?_ ?_; simp (config := { maxSteps := 2000000 }) (disch := first | omega | rfl) only [sB]; refine z03 ?_) | (refine EvC.condF ?_ ?_; simp (config := { maxSteps := 2000000 }) (disch := first | omega | rfl) only [sB]; refine z03 ?_))
      exact z04 rfl (by simp only [sB, Nat.reduceEqDiff] <;> rfl) ⟨by rw [← hc, List.drop_of_length_le (by omega), chkL], hx⟩
  · exact ⟨_, _, 0, rfl, rfl, by omega, rfl, (by simp only [sG, Nat.reduceEqDiff, reduceCtorEq] <;> rfl), (by simp only [sG, Nat.reduceEqDiff, reduceCtorEq] <;> rfl), (by simp only [sB, Nat.reduceEqDiff, reduceCtorEq] <;> rfl), HX.refl hw⟩
theorem zf8 {l : List Tm} {a : Option Addr} {c : Nat} {cells : Nat → List Value} {H : Heap} (rl : RepL H l a c cells) (hw : H.wf) :
    EvF Tryd.prog okT 54 [.slice a l.length c] H fun v H' => v = .int .i64 (chkL l) ∧ HX H H' := by
  have hm := rl.max
  refine EvF.enter rfl Tryd.func54 (by decide) rfl ?_
  repeat' (first | refine EvC.seq ?_ | refine EvC.scope ?_ | refine EvC.block ?_ | (refine EvC.skip ?_) | (refine EvC.exit ?_) | (refine EvC.ret ?_; try simp only [z01, z00]) | (refine EvC.reg ?_; simp (config := { maxSteps := 2000000 }) (disch := first | omega | rfl) only [sA, initTm]))
  refine EvC.loop (fun k st => ∃ tm H' i, st = ⟨tm, [], H'⟩ ∧ k = l.length - i ∧ i ≤ l.length ∧ chkL (l.drop i) = chkL l ∧ tm.get 0 = some (.slice a l.length c) ∧ tm.get 3 = some (.int .i64 (i : Nat)) ∧ HX H H') ?_ l.length _ ?_
  · rintro k st ⟨tm, H', i, rfl, rfl, hi, hc, g6, g8, hx⟩
    by_cases hlt : i < l.length
    · obtain ⟨b, o, a1, c1, rfl, hld, hr⟩ := rl.el hlt
      have hld1 := hx.load hw hld
      repeat' (first | refine EvC.seq ?_ | refine EvC.scope ?_ | refine EvC.block ?_ | (refine EvC.skip ?_; try simp only [z02]) | (refine EvC.exit ?_) | (refine EvC.ret ?_; try simp only [z01, z00]) | (refine EvC.reg ?_; simp (config := { maxSteps := 2000000 }) (disch := first | omega | rfl) only [sB, Nat.reduceEqDiff, reduceCtorEq, ln24, ia24, ld26, cl16, g6, g8, decl hlt, hld1]) | (refine EvC.condT ?_ ?_; simp (config := { maxSteps := 2000000 }) (disch := first | omega | rfl) only [sB, Nat.reduceEqDiff]; refine z03 ?_))
      refine (zb2 _ _ _ (hr.mono hx hw) hx.wf).mono ?_
      rintro v H3 ⟨rfl, hx3⟩
      by_cases h0 : checkS l[i] = 0
      · repeat' (first | refine EvC.seq ?_ | refine EvC.scope ?_ | refine EvC.block ?_ | (refine EvC.skip ?_; try simp only [sA]) | (refine EvC.exit ?_) | (refine EvC.ret ?_; try simp only [z01, z00]) | (refine EvC.reg ?_; simp (config := { maxSteps := 2000000 }) (disch := first | omega | rfl) only [sB, Nat.reduceEqDiff, g8, z10 h0, z06]) | (refine EvC.condT ?_ ?_; simp (config := { maxSteps := 2000000 }) (disch := first | omega | rfl) only [sB, Nat.reduceEqDiff]; refine z03 ?_) | (refine EvC.condF ?_ ?_; simp (config := { maxSteps := 2000000 }) (disch := first | omega | rfl) only [sB, Nat.reduceEqDiff]; refine z03 ?_))
        exact ⟨l.length - (i + 1), by omega, _, _, i + 1, rfl, rfl, by omega, by rw [← hc, z54 hlt, if_pos h0], (by simp only [sG, reduceCtorEq, g6] <;> rfl), (by simp only [sB, Nat.reduceEqDiff] <;> rfl), hx.trans hx3⟩
      · repeat' (first | refine EvC.seq ?_ | refine EvC.scope ?_ | refine EvC.block ?_ | (refine EvC.skip ?_) | (refine EvC.exit ?_) | (refine EvC.ret ?_; try simp only [z01, z00]) | (refine EvC.reg ?_; simp (config := { maxSteps := 2000000 }) (disch := first | omega | rfl) only [sB, Nat.reduceEqDiff, z2x h0]) | (refine EvC.condT ?_ ?_; simp (config := { maxSteps := 2000000 }) (disch := first | omega | rfl) only [sB, Nat.reduceEqDiff]; refine z03 ?_))
        exact z04 rfl (by simp only [sB, Nat.reduceEqDiff] <;> rfl) ⟨by rw [← hc, z54 hlt, if_neg h0], hx.trans hx3⟩
    · repeat' (first | refine EvC.seq ?_ | refine EvC.scope ?_ | refine EvC.block ?_ | (refine EvC.skip ?_) | (refine EvC.exit ?_; try simp only [sB]) | (refine EvC.ret ?_; try simp only [z01, z00]) | (refine EvC.reg ?_; simp (config := { maxSteps := 2000000 }) (disch := first | omega | rfl) only [sB, Nat.reduceEqDiff, reduceCtorEq, ln24, g6, g8, decn hlt]) | (refine EvC.condT ?_ ?_; simp (config := { maxSteps := 2000000 }) (disch := first | omega | rfl) only [sB, Nat.reduceEqDiff]; refine z03 ?_) | (refine EvC.condF ?_ ?_; simp (config := { maxSteps := 2000000 }) (disch := first | omega | rfl) only [sB, Nat.reduceEqDiff]; refine z03 ?_))
      exact z04 rfl (by simp only [sB, Nat.reduceEqDiff] <;> rfl) ⟨by rw [← hc, List.drop_of_length_le (by omega), chkL], hx⟩
  · exact ⟨_, _, 0, rfl, rfl, by omega, rfl, (by simp only [sG, reduceCtorEq] <;> rfl), (by simp only [sB, Nat.reduceEqDiff, reduceCtorEq] <;> rfl), HX.refl hw⟩
theorem zjn {l : List Tm} {a : Option Addr} {c : Nat} {cells : Nat → List Value} {H : Heap} (rl : RepL H l a c cells) (hw : H.wf) :
    EvF Tryd.prog okT 18 [.slice a l.length c] H fun v H' => v = .int .i64 (chkL l) ∧ HX H H' := by
  refine EvF.enter rfl Tryd.func18 (by decide) rfl ?_
  repeat' (first | refine EvC.seq ?_ | refine EvC.scope ?_ | refine EvC.block ?_ | (refine EvC.skip ?_) | (refine EvC.exit ?_) | (refine EvC.ret ?_; try simp only [z01, z00]) | (refine EvC.reg ?_; simp (config := { maxSteps := 2000000 }) (disch := first | omega | rfl) only [sB, initTm, Nat.reduceEqDiff, reduceCtorEq, cl54]))
  refine (zf8 rl hw).mono ?_
  rintro v H3 ⟨rfl, hx3⟩
  repeat' (first | refine EvC.seq ?_ | refine EvC.scope ?_ | refine EvC.block ?_ | (refine EvC.skip ?_) | (refine EvC.exit ?_) | (refine EvC.ret ?_; try simp only [z01, z00]))
  exact z04 rfl (by simp only [sG, Nat.reduceEqDiff, reduceCtorEq] <;> rfl) ⟨rfl, hx3⟩
end Go.Proofs.YtlllbkjiadcloaaDoor.hb
end

-- Z14
section
namespace Go.Proofs.YtlllbkjiadcloaaDoor.hb
open Go Go.RowKit Go.Hb
variable {ok : Ok}
set_option maxRecDepth 10000
attribute [local irreducible] LX LG EL STG SOP SGO SGD SAL SRD SEF SEG SLK SCK ES
end Go.Proofs.YtlllbkjiadcloaaDoor.hb
end
