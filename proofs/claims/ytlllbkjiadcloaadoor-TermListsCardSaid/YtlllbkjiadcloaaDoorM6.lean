import Derived.Test.YtlllbkjiadcloaaDoorM3
import Derived.Test.YtlllbkjiadcloaaDoorM5
/- Lemmas on the program's own code, towards the laws of this folder, part 6. Conditions: as each lemma says. -/
-- X3
section
/- UTF-8: the reference's function. -/
namespace Go.Proofs.YtlllbkjiadcloaaDoor.hb
open Go Go.RowKit Go.Hb

theorem toNat_at (s : ByteArray) (i : Nat) (h : i < s.size) : s.data.toList.drop i = (s[i]'h) :: s.data.toList.drop (i + 1) := by
  have h' : i < s.data.toList.length := by simpa using h
  rw [List.drop_eq_getElem_cons h']
  rfl
theorem len_bytes (s : ByteArray) : s.data.toList.length = s.size := by simp

theorem lead_le {m n lo c : Nat} (h : leadR m = some (n, lo, c)) : 1 ≤ n ∧ n ≤ 3 ∧ c < 32 ∧ lo ≤ 65536 := by
  unfold leadR at h
  split at h
  · cases h; omega
  · split at h
    · cases h; omega
    · split at h
      · cases h; omega
      · cases h

variable {ok : Ok}
set_option maxRecDepth 10000
set_option maxHeartbeats 4000000 in
theorem utf_ref_ev (hk : ∀ args H, ok.K 105 args H = none) (hm : ok.testBit 105 = true) : TellsS ok 105 fun s => utfR s.size s.data.toList := by
  intro s H hs hw
  have hs' : s.size ≤ 9223372036854775807 := hs
  refine EvF.enter (hk _ _) Tryd.func105 hm rfl ?_
  (repeat refine EvC.seq ?_); refine EvC.reg ?_; simp (config := { maxSteps := 2000000 }) (disch := first | omega | rfl) only [sA, initTm]
  (repeat refine EvC.seq ?_); refine EvC.reg ?_; simp (config := { maxSteps := 2000000 }) (disch := first | omega | rfl) only [sA]
  (repeat refine EvC.seq ?_)
  refine EvC.block (EvC.loop (fun k st => ∃ tm i, st = ⟨tm, [], H⟩ ∧ k = s.size - i ∧ i ≤ s.size ∧ utfR (s.size - i) (s.data.toList.drop i) = utfR s.size s.data.toList ∧ tm.get 0 = some (.string s) ∧ tm.get 3 = some (.int .i64 (i : Nat))) ?_ s.size _ ?_)
  · rintro k st ⟨tm, i, rfl, hk', hi, hc, g0, g3⟩
    (repeat refine EvC.seq ?_); refine EvC.reg ?_; simp (config := { maxSteps := 2000000 }) (disch := first | omega | rfl) only [sA, Nat.reduceEqDiff, reduceCtorEq, if_true, if_false, g0, g3, dLn_string Tryd.underlying9]
    by_cases hlt : i < s.size
    · refine EvC.condT (by simp only [sA, Nat.reduceEqDiff, if_true, if_false]; exact congrArg _ (decide_eq_true (by omega))) (EvC.skip ?_)
      try simp (config := { maxSteps := 2000000 }) (disch := first | omega | rfl) only [thenC_normal]
      refine EvC.block ?_
      have hat := toNat_at s i hlt
      have hbt := (s[i]'hlt).toNat_lt
      obtain ⟨m, hm'⟩ : ∃ m, m = (s[i]'hlt).toNat := ⟨_, rfl⟩
      rw [← hm'] at hbt
      have hmB : byteAt s i = m := by rw [byteAt_get s i hlt, hm']
      have hf : s.size - i = (s.size - (i + 1)) + 1 := by omega
      rw [hf, hat, utfR, ← hm'] at hc
      (repeat refine EvC.seq ?_); refine EvC.reg ?_; simp (config := { maxSteps := 2000000 }) (disch := first | omega | rfl) only [sA, Nat.reduceEqDiff, reduceCtorEq, if_true, if_false, g0, g3, dIdx_byte Tryd.underlying9 hlt, hmB]
      (repeat refine EvC.seq ?_); refine EvC.reg ?_; simp (config := { maxSteps := 2000000 }) (disch := first | omega | rfl) only [sA]
      (repeat refine EvC.seq ?_); refine EvC.reg ?_; simp (config := { maxSteps := 2000000 }) (disch := first | omega | rfl) only [sA]
      (repeat refine EvC.seq ?_); refine EvC.reg ?_; simp (config := { maxSteps := 2000000 }) (disch := first | omega | rfl) only [sA]
      (repeat refine EvC.seq ?_); refine EvC.reg ?_; simp (config := { maxSteps := 2000000 }) (disch := first | omega | rfl) only [sA, Nat.reduceEqDiff, if_true, if_false]
      refine EvC.frame (fun tm => tm.get 0 = some (.string s) ∧ tm.get 3 = some (.int .i64 (i : Nat)) ∧ tm.get 4 = some (.int .u8 (m : Nat)) ∧ tm.get 17 = some (.bool (decide ((m : Int) < 128)))) ⟨by simp only [Tr.get_put, reduceCtorEq, if_false]; exact g0, by simp only [Tr.get_put, Nat.reduceEqDiff, if_false]; exact g3, by simp only [Tr.get_put, Nat.reduceEqDiff, if_true, if_false], by simp only [Tr.get_put, Nat.reduceEqDiff, if_true, if_false]⟩ ?_
      clear g0 g3 tm
      rintro tm ⟨g0, g3, g4, g17⟩
      (repeat refine EvC.seq ?_)
      by_cases hasc : m < 128
      · refine EvC.condT (by simp only [sA, g17, decide_eq_true (show (m : Int) < 128 by omega)]) ?_
        (repeat refine EvC.seq ?_); refine EvC.reg ?_; simp (config := { maxSteps := 2000000 }) (disch := first | omega | rfl) only [sA, Nat.reduceEqDiff, if_true, if_false, g3, wrap_i64]
        refine EvC.exit ?_
        try simp (config := { maxSteps := 2000000 }) (disch := first | omega | rfl) only [sA, reduceCtorEq, if_true, if_false]
        refine ⟨s.size - (i + 1), by omega, _, i + 1, rfl, rfl, by omega, by rw [← hc, if_pos hasc], by simp only [Tr.get_put, reduceCtorEq, if_false]; exact g0, by simp only [Tr.get_put, Nat.reduceEqDiff, if_true, if_false]; rfl⟩
      rw [if_neg hasc] at hc
      refine EvC.condF (by simp only [sA, g17, decide_eq_false (show ¬ (m : Int) < 128 by omega)]) ?_
      refine EvC.join (fun st => ∃ n lo c tm, leadR m = some (n, lo, c) ∧ st = ⟨tm, [], H⟩ ∧ tm.get 0 = some (.string s) ∧ tm.get 3 = some (.int .i64 (i : Nat)) ∧ tm.get 5 = some (.int .i64 (n : Nat)) ∧ tm.get 6 = some (.int .i64 (lo : Nat)) ∧ tm.get 7 = some (.int .i64 (c : Nat))) ?_ ?_
      · have hcs : m < 192 ∨ (192 ≤ m ∧ m < 224) ∨ (224 ≤ m ∧ m < 240) ∨ (240 ≤ m ∧ m < 248) ∨ 248 ≤ m := by omega
        rcases hcs with h | ⟨h, h'⟩ | ⟨h, h'⟩ | ⟨h, h'⟩ | h
        · have q1 : decide ((m : Int) ≥ 192) = false := decide_eq_false (by omega)
          have q3 : decide ((m : Int) ≥ 224) = false := decide_eq_false (by omega)
          have q5 : decide ((m : Int) ≥ 240) = false := decide_eq_false (by omega)
          have hl : leadR m = none := by unfold leadR; rw [if_neg (by omega), if_neg (by omega), if_neg (by omega)]
          (repeat refine EvC.seq ?_); refine EvC.reg ?_; simp (config := { maxSteps := 2000000 }) (disch := first | omega | rfl) only [sA, Nat.reduceEqDiff, if_true, if_false, g4, q1, Bool.false_eq_true]
          (repeat refine EvC.seq ?_); refine EvC.condF (by simp only [sA, Nat.reduceEqDiff, if_true, if_false]) ?_
          (repeat refine EvC.seq ?_); refine EvC.reg ?_; simp (config := { maxSteps := 2000000 }) (disch := first | omega | rfl) only [sA, Nat.reduceEqDiff, if_true, if_false, g4, q3, Bool.false_eq_true]
          (repeat refine EvC.seq ?_); refine EvC.condF (by simp only [sA, Nat.reduceEqDiff, if_true, if_false]) ?_
          (repeat refine EvC.seq ?_); refine EvC.reg ?_; simp (config := { maxSteps := 2000000 }) (disch := first | omega | rfl) only [sA, Nat.reduceEqDiff, if_true, if_false, g4, q5, Bool.false_eq_true]
          (repeat refine EvC.seq ?_); refine EvC.condF (by simp only [sA, Nat.reduceEqDiff, if_true, if_false]) ?_
          (repeat refine EvC.seq ?_); refine EvC.reg ?_; simp (config := { maxSteps := 2000000 }) (disch := first | omega | rfl) only [sA]
          refine EvC.ret ?_
          try simp (config := { maxSteps := 2000000 }) (disch := first | omega | rfl) only [sA]
          exact leave_one rfl (by simp only [Tr.get_put, Nat.reduceEqDiff, if_true, if_false]; rfl) ⟨by rw [← hc]; simp only [stepR, ← hm', hl], HX.refl hw⟩
        · have q1 : decide ((m : Int) ≥ 192) = true := decide_eq_true (by omega)
          have q2 : decide ((m : Int) < 224) = true := decide_eq_true (by omega)
          have hl : leadR m = some (1, 128, m - 192) := by unfold leadR; rw [if_pos (by omega)]
          (repeat refine EvC.seq ?_); refine EvC.reg ?_; simp (config := { maxSteps := 2000000 }) (disch := first | omega | rfl) only [sA, Nat.reduceEqDiff, if_true, if_false, g4, q1, q2]
          (repeat refine EvC.seq ?_); refine EvC.condT (by simp only [sA, Nat.reduceEqDiff, if_true, if_false]) ?_
          (repeat refine EvC.seq ?_); refine EvC.reg ?_; simp (config := { maxSteps := 2000000 }) (disch := first | omega | rfl) only [sA]
          (repeat refine EvC.seq ?_); refine EvC.reg ?_; simp (config := { maxSteps := 2000000 }) (disch := first | omega | rfl) only [sA]
          (repeat refine EvC.seq ?_); refine EvC.reg ?_; simp (config := { maxSteps := 2000000 }) (disch := first | omega | rfl) only [sA, Nat.reduceEqDiff, if_true, if_false, g4, dCon_int Tryd.underlying5 Tryd.underlying3, wrap_i64]
          exact ⟨1, 128, m - 192, _, hl, rfl, by simp only [Tr.get_put, reduceCtorEq, if_false]; exact g0, by simp only [Tr.get_put, Nat.reduceEqDiff, if_false]; exact g3, by simp only [Tr.get_put, Nat.reduceEqDiff, if_true, if_false]; rfl, by simp only [Tr.get_put, Nat.reduceEqDiff, if_true, if_false]; rfl, by simp only [Tr.get_put, Nat.reduceEqDiff, if_true, if_false]; exact congrArg (fun z => some (Value.int .i64 z)) (by omega)⟩
        · have q1 : decide ((m : Int) ≥ 192) = true := decide_eq_true (by omega)
          have q2 : decide ((m : Int) < 224) = false := decide_eq_false (by omega)
          have q3 : decide ((m : Int) ≥ 224) = true := decide_eq_true (by omega)
          have q4 : decide ((m : Int) < 240) = true := decide_eq_true (by omega)
          have hl : leadR m = some (2, 2048, m - 224) := by unfold leadR; rw [if_neg (by omega), if_pos (by omega)]
          (repeat refine EvC.seq ?_); refine EvC.reg ?_; simp (config := { maxSteps := 2000000 }) (disch := first | omega | rfl) only [sA, Nat.reduceEqDiff, if_true, if_false, g4, q1, q2]
          (repeat refine EvC.seq ?_); refine EvC.condF (by simp only [sA, Nat.reduceEqDiff, if_true, if_false]) ?_
          (repeat refine EvC.seq ?_); refine EvC.reg ?_; simp (config := { maxSteps := 2000000 }) (disch := first | omega | rfl) only [sA, Nat.reduceEqDiff, if_true, if_false, g4, q3, q4]
          (repeat refine EvC.seq ?_); refine EvC.condT (by simp only [sA, Nat.reduceEqDiff, if_true, if_false]) ?_
          (repeat refine EvC.seq ?_); refine EvC.reg ?_; simp (config := { maxSteps := 2000000 }) (disch := first | omega | rfl) only [sA]
          (repeat refine EvC.seq ?_); refine EvC.reg ?_; simp (config := { maxSteps := 2000000 }) (disch := first | omega | rfl) only [sA]
          (repeat refine EvC.seq ?_); refine EvC.reg ?_; simp (config := { maxSteps := 2000000 }) (disch := first | omega | rfl) only [sA, Nat.reduceEqDiff, if_true, if_false, g4, dCon_int Tryd.underlying5 Tryd.underlying3, wrap_i64]
          exact ⟨2, 2048, m - 224, _, hl, rfl, by simp only [Tr.get_put, reduceCtorEq, if_false]; exact g0, by simp only [Tr.get_put, Nat.reduceEqDiff, if_false]; exact g3, by simp only [Tr.get_put, Nat.reduceEqDiff, if_true, if_false]; rfl, by simp only [Tr.get_put, Nat.reduceEqDiff, if_true, if_false]; rfl, by simp only [Tr.get_put, Nat.reduceEqDiff, if_true, if_false]; exact congrArg (fun z => some (Value.int .i64 z)) (by omega)⟩
        · have q1 : decide ((m : Int) ≥ 192) = true := decide_eq_true (by omega)
          have q2 : decide ((m : Int) < 224) = false := decide_eq_false (by omega)
          have q3 : decide ((m : Int) ≥ 224) = true := decide_eq_true (by omega)
          have q4 : decide ((m : Int) < 240) = false := decide_eq_false (by omega)
          have q5 : decide ((m : Int) ≥ 240) = true := decide_eq_true (by omega)
          have q6 : decide ((m : Int) < 248) = true := decide_eq_true (by omega)
          have hl : leadR m = some (3, 65536, m - 240) := by unfold leadR; rw [if_neg (by omega), if_neg (by omega), if_pos (by omega)]
          (repeat refine EvC.seq ?_); refine EvC.reg ?_; simp (config := { maxSteps := 2000000 }) (disch := first | omega | rfl) only [sA, Nat.reduceEqDiff, if_true, if_false, g4, q1, q2]
          (repeat refine EvC.seq ?_); refine EvC.condF (by simp only [sA, Nat.reduceEqDiff, if_true, if_false]) ?_
          (repeat refine EvC.seq ?_); refine EvC.reg ?_; simp (config := { maxSteps := 2000000 }) (disch := first | omega | rfl) only [sA, Nat.reduceEqDiff, if_true, if_false, g4, q3, q4]
          (repeat refine EvC.seq ?_); refine EvC.condF (by simp only [sA, Nat.reduceEqDiff, if_true, if_false]) ?_
          (repeat refine EvC.seq ?_); refine EvC.reg ?_; simp (config := { maxSteps := 2000000 }) (disch := first | omega | rfl) only [sA, Nat.reduceEqDiff, if_true, if_false, g4, q5, q6]
          (repeat refine EvC.seq ?_); refine EvC.condT (by simp only [sA, Nat.reduceEqDiff, if_true, if_false]) ?_
          (repeat refine EvC.seq ?_); refine EvC.reg ?_; simp (config := { maxSteps := 2000000 }) (disch := first | omega | rfl) only [sA]
          (repeat refine EvC.seq ?_); refine EvC.reg ?_; simp (config := { maxSteps := 2000000 }) (disch := first | omega | rfl) only [sA]
          (repeat refine EvC.seq ?_); refine EvC.reg ?_; simp (config := { maxSteps := 2000000 }) (disch := first | omega | rfl) only [sA, Nat.reduceEqDiff, if_true, if_false, g4, dCon_int Tryd.underlying5 Tryd.underlying3, wrap_i64]
          exact ⟨3, 65536, m - 240, _, hl, rfl, by simp only [Tr.get_put, reduceCtorEq, if_false]; exact g0, by simp only [Tr.get_put, Nat.reduceEqDiff, if_false]; exact g3, by simp only [Tr.get_put, Nat.reduceEqDiff, if_true, if_false]; rfl, by simp only [Tr.get_put, Nat.reduceEqDiff, if_true, if_false]; rfl, by simp only [Tr.get_put, Nat.reduceEqDiff, if_true, if_false]; exact congrArg (fun z => some (Value.int .i64 z)) (by omega)⟩
        · have q1 : decide ((m : Int) ≥ 192) = true := decide_eq_true (by omega)
          have q2 : decide ((m : Int) < 224) = false := decide_eq_false (by omega)
          have q3 : decide ((m : Int) ≥ 224) = true := decide_eq_true (by omega)
          have q4 : decide ((m : Int) < 240) = false := decide_eq_false (by omega)
          have q5 : decide ((m : Int) ≥ 240) = true := decide_eq_true (by omega)
          have q6 : decide ((m : Int) < 248) = false := decide_eq_false (by omega)
          have hl : leadR m = none := by unfold leadR; rw [if_neg (by omega), if_neg (by omega), if_neg (by omega)]
          (repeat refine EvC.seq ?_); refine EvC.reg ?_; simp (config := { maxSteps := 2000000 }) (disch := first | omega | rfl) only [sA, Nat.reduceEqDiff, if_true, if_false, g4, q1, q2]
          (repeat refine EvC.seq ?_); refine EvC.condF (by simp only [sA, Nat.reduceEqDiff, if_true, if_false]) ?_
          (repeat refine EvC.seq ?_); refine EvC.reg ?_; simp (config := { maxSteps := 2000000 }) (disch := first | omega | rfl) only [sA, Nat.reduceEqDiff, if_true, if_false, g4, q3, q4]
          (repeat refine EvC.seq ?_); refine EvC.condF (by simp only [sA, Nat.reduceEqDiff, if_true, if_false]) ?_
          (repeat refine EvC.seq ?_); refine EvC.reg ?_; simp (config := { maxSteps := 2000000 }) (disch := first | omega | rfl) only [sA, Nat.reduceEqDiff, if_true, if_false, g4, q5, q6]
          (repeat refine EvC.seq ?_); refine EvC.condF (by simp only [sA, Nat.reduceEqDiff, if_true, if_false]) ?_
          (repeat refine EvC.seq ?_); refine EvC.reg ?_; simp (config := { maxSteps := 2000000 }) (disch := first | omega | rfl) only [sA]
          refine EvC.ret ?_
          try simp (config := { maxSteps := 2000000 }) (disch := first | omega | rfl) only [sA]
          exact leave_one rfl (by simp only [Tr.get_put, Nat.reduceEqDiff, if_true, if_false]; rfl) ⟨by rw [← hc]; simp only [stepR, ← hm', hl], HX.refl hw⟩
      rintro st ⟨n, lo, c, tm1, hlead, rfl, f0, f3, f5, f6, f7⟩
      clear g0 g3 g4 g17 tm
      try simp (config := { maxSteps := 2000000 }) (disch := first | omega | rfl) only [thenC_normal]
      have hle := lead_le hlead
      (repeat refine EvC.seq ?_); refine EvC.reg ?_; simp (config := { maxSteps := 2000000 }) (disch := first | omega | rfl) only [sA]
      (repeat refine EvC.seq ?_)
      refine EvC.join (fun st => ∃ c' tm, contR n (s.data.toList.drop (i + 1)) c = some c' ∧ c' < 8388608 ∧ i + 1 + n ≤ s.size ∧ st = ⟨tm, [], H⟩ ∧ tm.get 0 = some (.string s) ∧ tm.get 3 = some (.int .i64 (i : Nat)) ∧ tm.get 5 = some (.int .i64 (n : Nat)) ∧ tm.get 6 = some (.int .i64 (lo : Nat)) ∧ tm.get 7 = some (.int .i64 (c' : Nat))) ?_ ?_
      · refine EvC.block (EvC.loop (fun k st => ∃ tm j c', st = ⟨tm, [], H⟩ ∧ k = n - j ∧ j ≤ n ∧ ((j = 0 ∧ c' < 32) ∨ (j = 1 ∧ c' < 2048) ∨ (j = 2 ∧ c' < 131072) ∨ (j = 3 ∧ c' < 8388608)) ∧ i + 1 + j ≤ s.size ∧ contR (n - j) (s.data.toList.drop (i + 1 + j)) c' = contR n (s.data.toList.drop (i + 1)) c ∧ tm.get 0 = some (.string s) ∧ tm.get 3 = some (.int .i64 (i : Nat)) ∧ tm.get 5 = some (.int .i64 (n : Nat)) ∧ tm.get 6 = some (.int .i64 (lo : Nat)) ∧ tm.get 7 = some (.int .i64 (c' : Nat)) ∧ tm.get 8 = some (.int .i64 ((j + 1 : Nat) : Int))) ?_ n _ ?_)
        · rintro k st ⟨tm, j, c', rfl, hkj, hj, hcl, hij, hcc, e0, e3, e5, e6, e7, e8⟩
          have hcb : c' < 8388608 := by omega
          (repeat refine EvC.seq ?_); refine EvC.reg ?_; simp (config := { maxSteps := 2000000 }) (disch := first | omega | rfl) only [sA, Nat.reduceEqDiff, if_true, if_false, e5, e8]
          (repeat refine EvC.seq ?_)
          by_cases hjn : j + 1 ≤ n
          · refine EvC.condT (by simp only [sA, Nat.reduceEqDiff, if_true, if_false]; exact congrArg _ (decide_eq_true (by omega))) (EvC.skip ?_)
            try simp (config := { maxSteps := 2000000 }) (disch := first | omega | rfl) only [thenC_normal]
            refine EvC.seq ?_
            have hw1 : IntKind.i64.wrap ((i : Int) + ((j + 1 : Nat) : Int)) = ((i + 1 + j : Nat) : Int) := by rw [wrap_i64 (by omega) (by omega)]; omega
            have hnj : n - j = (n - (j + 1)) + 1 := by omega
            by_cases hend : i + 1 + j < s.size
            · have hat2 := toNat_at s (i + 1 + j) hend
              have hbt2 := (s[i + 1 + j]'hend).toNat_lt
              obtain ⟨b, hb'⟩ : ∃ b, b = (s[i + 1 + j]'hend).toNat := ⟨_, rfl⟩
              rw [← hb'] at hbt2
              have hbB : byteAt s (i + 1 + j) = b := by rw [byteAt_get s _ hend, hb']
              rw [hnj, hat2, contR, ← hb'] at hcc
              have q1 : decide (((i + 1 + j : Nat) : Int) ≥ (s.size : Int)) = false := decide_eq_false (by omega)
              refine EvC.block ?_
              by_cases hbad : b < 128 ∨ 192 ≤ b
              · rw [if_pos hbad] at hcc
                have hst : stepR (s[i] :: s.data.toList.drop (i + 1)) = none := by simp only [stepR, ← hm', hlead, ← hcc]
                have fin : utfR s.size s.data.toList = false := by rw [← hc, hst]
                by_cases h2 : b < 128
                · have q2 : decide ((b : Int) < 128) = true := decide_eq_true (by omega)
                  (repeat refine EvC.seq ?_); refine EvC.reg ?_; simp (config := { maxSteps := 2000000 }) (disch := first | omega | rfl) only [sA, Nat.reduceEqDiff, reduceCtorEq, if_true, if_false, e0, e3, e8, hw1, q1, q2, dLn_string Tryd.underlying9, dIdx_byte Tryd.underlying9 hend, hbB, Bool.false_eq_true]
                  (repeat refine EvC.seq ?_); refine EvC.condT (by simp only [sA, Nat.reduceEqDiff, if_true, if_false]) ?_
                  (repeat refine EvC.seq ?_); refine EvC.reg ?_; simp (config := { maxSteps := 2000000 }) (disch := first | omega | rfl) only [sA]
                  refine EvC.ret ?_
                  try simp (config := { maxSteps := 2000000 }) (disch := first | omega | rfl) only [sA]
                  exact leave_one rfl (by simp only [Tr.get_put, Nat.reduceEqDiff, if_true, if_false]; rfl) ⟨by rw [fin], HX.refl hw⟩
                · have q2 : decide ((b : Int) < 128) = false := decide_eq_false (by omega)
                  have q3 : decide ((b : Int) ≥ 192) = true := decide_eq_true (by omega)
                  (repeat refine EvC.seq ?_); refine EvC.reg ?_; simp (config := { maxSteps := 2000000 }) (disch := first | omega | rfl) only [sA, Nat.reduceEqDiff, reduceCtorEq, if_true, if_false, e0, e3, e8, hw1, q1, q2, q3, dLn_string Tryd.underlying9, dIdx_byte Tryd.underlying9 hend, hbB, Bool.false_eq_true]
                  (repeat refine EvC.seq ?_); refine EvC.condT (by simp only [sA, Nat.reduceEqDiff, if_true, if_false]) ?_
                  (repeat refine EvC.seq ?_); refine EvC.reg ?_; simp (config := { maxSteps := 2000000 }) (disch := first | omega | rfl) only [sA]
                  refine EvC.ret ?_
                  try simp (config := { maxSteps := 2000000 }) (disch := first | omega | rfl) only [sA]
                  exact leave_one rfl (by simp only [Tr.get_put, Nat.reduceEqDiff, if_true, if_false]; rfl) ⟨by rw [fin], HX.refl hw⟩
              · rw [if_neg hbad] at hcc
                have q2 : decide ((b : Int) < 128) = false := decide_eq_false (by omega)
                have q3 : decide ((b : Int) ≥ 192) = false := decide_eq_false (by omega)
                (repeat refine EvC.seq ?_); refine EvC.reg ?_; simp (config := { maxSteps := 2000000 }) (disch := first | omega | rfl) only [sA, Nat.reduceEqDiff, reduceCtorEq, if_true, if_false, e0, e3, e8, hw1, q1, q2, q3, dLn_string Tryd.underlying9, dIdx_byte Tryd.underlying9 hend, hbB, Bool.false_eq_true]
                (repeat refine EvC.seq ?_); refine EvC.condF (by simp only [sA, Nat.reduceEqDiff, if_true, if_false]) (EvC.skip ?_)
                try simp (config := { maxSteps := 2000000 }) (disch := first | omega | rfl) only [thenC_normal]
                (repeat refine EvC.seq ?_); refine EvC.reg ?_; simp (config := { maxSteps := 2000000 }) (disch := first | omega | rfl) only [sA, Nat.reduceEqDiff, reduceCtorEq, if_true, if_false, e0, e3, e7, e8, hw1, dIdx_byte Tryd.underlying9 hend, hbB, dCon_int Tryd.underlying5 Tryd.underlying3, wrap_i64]
                (repeat refine EvC.seq ?_); refine EvC.reg ?_; simp (config := { maxSteps := 2000000 }) (disch := first | omega | rfl) only [sA, Nat.reduceEqDiff, if_true, if_false, e8, wrap_i64]
                exact ⟨n - (j + 1), by omega, _, j + 1, c' * 64 + b - 128, rfl, rfl, hjn, by omega, by omega, hcc, by simp only [Tr.get_put, reduceCtorEq, if_false]; exact e0, by simp only [Tr.get_put, Nat.reduceEqDiff, if_false]; exact e3, by simp only [Tr.get_put, Nat.reduceEqDiff, if_false]; exact e5, by simp only [Tr.get_put, Nat.reduceEqDiff, if_false]; exact e6, by simp only [Tr.get_put, Nat.reduceEqDiff, if_true, if_false]; exact congrArg (fun z => some (Value.int .i64 z)) (by omega), by simp only [Tr.get_put, Nat.reduceEqDiff, if_true, if_false]; rfl⟩
            · have q1 : decide (((i + 1 + j : Nat) : Int) ≥ (s.size : Int)) = true := decide_eq_true (by omega)
              have hnil : s.data.toList.drop (i + 1 + j) = [] := List.drop_of_length_le (by rw [len_bytes]; omega)
              rw [hnj, hnil, contR] at hcc
              have hst : stepR (s[i] :: s.data.toList.drop (i + 1)) = none := by simp only [stepR, ← hm', hlead, ← hcc]
              have fin : utfR s.size s.data.toList = false := by rw [← hc, hst]
              refine EvC.block ?_
              (repeat refine EvC.seq ?_); refine EvC.reg ?_; simp (config := { maxSteps := 2000000 }) (disch := first | omega | rfl) only [sA, Nat.reduceEqDiff, reduceCtorEq, if_true, if_false, e0, e3, e8, hw1, q1, dLn_string Tryd.underlying9]
              (repeat refine EvC.seq ?_); refine EvC.condT (by simp only [sA, Nat.reduceEqDiff, if_true, if_false]) ?_
              (repeat refine EvC.seq ?_); refine EvC.reg ?_; simp (config := { maxSteps := 2000000 }) (disch := first | omega | rfl) only [sA]
              refine EvC.ret ?_
              try simp (config := { maxSteps := 2000000 }) (disch := first | omega | rfl) only [sA]
              exact leave_one rfl (by simp only [Tr.get_put, Nat.reduceEqDiff, if_true, if_false]; rfl) ⟨by rw [fin], HX.refl hw⟩
          · refine EvC.condF (by simp only [sA, Nat.reduceEqDiff, if_true, if_false]; exact congrArg _ (decide_eq_false (by omega))) (EvC.exit ?_)
            try simp (config := { maxSteps := 2000000 }) (disch := first | omega | rfl) only [sA, Nat.reduceEqDiff, reduceCtorEq, if_true, if_false]
            have hjn' : n - j = 0 := by omega
            have hjn2 : j = n := by omega
            rw [hjn', contR] at hcc
            exact ⟨c', _, hcc.symm, hcb, by omega, rfl, by simp only [Tr.get_put, reduceCtorEq, if_false]; exact e0, by simp only [Tr.get_put, Nat.reduceEqDiff, if_false]; exact e3, by simp only [Tr.get_put, Nat.reduceEqDiff, if_false]; exact e5, by simp only [Tr.get_put, Nat.reduceEqDiff, if_false]; exact e6, by simp only [Tr.get_put, Nat.reduceEqDiff, if_false]; exact e7⟩
        · exact ⟨_, 0, c, rfl, by omega, by omega, by omega, by omega, by simp only [Nat.sub_zero, Nat.add_zero], by simp only [Tr.get_put, reduceCtorEq, if_false]; exact f0, by simp only [Tr.get_put, Nat.reduceEqDiff, if_false]; exact f3, by simp only [Tr.get_put, Nat.reduceEqDiff, if_false]; exact f5, by simp only [Tr.get_put, Nat.reduceEqDiff, if_false]; exact f6, by simp only [Tr.get_put, Nat.reduceEqDiff, if_false]; exact f7, by simp only [sA, if_true]; rfl⟩
      rintro st ⟨c', tm, hcont, hcb, hin, rfl, e0, e3, e5, e6, e7⟩
      clear f0 f3 f5 f6 f7
      try simp (config := { maxSteps := 2000000 }) (disch := first | omega | rfl) only [thenC_normal]
      by_cases hbad : badR lo c'
      · have hst : stepR (s[i] :: s.data.toList.drop (i + 1)) = none := by simp only [stepR, ← hm', hlead, hcont, if_pos hbad]
        have fin : utfR s.size s.data.toList = false := by rw [← hc, hst]
        rcases hbad with h1 | h1
        · have q1 : decide ((c' : Int) < (lo : Int)) = true := decide_eq_true (by omega)
          (repeat refine EvC.seq ?_); refine EvC.reg ?_; simp (config := { maxSteps := 2000000 }) (disch := first | omega | rfl) only [sA, Nat.reduceEqDiff, if_true, if_false, e6, e7, q1]
          (repeat refine EvC.seq ?_); refine EvC.condT (by simp only [sA, Nat.reduceEqDiff, if_true, if_false]) ?_
          (repeat refine EvC.seq ?_); refine EvC.reg ?_; simp (config := { maxSteps := 2000000 }) (disch := first | omega | rfl) only [sA]
          refine EvC.ret ?_
          try simp (config := { maxSteps := 2000000 }) (disch := first | omega | rfl) only [sA]
          exact leave_one rfl (by simp only [Tr.get_put, Nat.reduceEqDiff, if_true, if_false]; rfl) ⟨by rw [fin], HX.refl hw⟩
        · by_cases h0 : c' < lo
          · have q1 : decide ((c' : Int) < (lo : Int)) = true := decide_eq_true (by omega)
            (repeat refine EvC.seq ?_); refine EvC.reg ?_; simp (config := { maxSteps := 2000000 }) (disch := first | omega | rfl) only [sA, Nat.reduceEqDiff, if_true, if_false, e6, e7, q1]
            (repeat refine EvC.seq ?_); refine EvC.condT (by simp only [sA, Nat.reduceEqDiff, if_true, if_false]) ?_
            (repeat refine EvC.seq ?_); refine EvC.reg ?_; simp (config := { maxSteps := 2000000 }) (disch := first | omega | rfl) only [sA]
            refine EvC.ret ?_
            try simp (config := { maxSteps := 2000000 }) (disch := first | omega | rfl) only [sA]
            exact leave_one rfl (by simp only [Tr.get_put, Nat.reduceEqDiff, if_true, if_false]; rfl) ⟨by rw [fin], HX.refl hw⟩
          have q1 : decide ((c' : Int) < (lo : Int)) = false := decide_eq_false (by omega)
          by_cases h2 : 1114111 < c'
          · have q2 : decide ((c' : Int) > 1114111) = true := decide_eq_true (by omega)
            (repeat refine EvC.seq ?_); refine EvC.reg ?_; simp (config := { maxSteps := 2000000 }) (disch := first | omega | rfl) only [sA, Nat.reduceEqDiff, if_true, if_false, e6, e7, q1, q2, Bool.false_eq_true]
            (repeat refine EvC.seq ?_); refine EvC.condT (by simp only [sA, Nat.reduceEqDiff, if_true, if_false]) ?_
            (repeat refine EvC.seq ?_); refine EvC.reg ?_; simp (config := { maxSteps := 2000000 }) (disch := first | omega | rfl) only [sA]
            refine EvC.ret ?_
            try simp (config := { maxSteps := 2000000 }) (disch := first | omega | rfl) only [sA]
            exact leave_one rfl (by simp only [Tr.get_put, Nat.reduceEqDiff, if_true, if_false]; rfl) ⟨by rw [fin], HX.refl hw⟩
          · have q2 : decide ((c' : Int) > 1114111) = false := decide_eq_false (by omega)
            have q3 : decide ((c' : Int) ≥ 55296) = true := decide_eq_true (by omega)
            have q4 : decide ((c' : Int) < 57344) = true := decide_eq_true (by omega)
            (repeat refine EvC.seq ?_); refine EvC.reg ?_; simp (config := { maxSteps := 2000000 }) (disch := first | omega | rfl) only [sA, Nat.reduceEqDiff, if_true, if_false, e6, e7, q1, q2, q3, q4, Bool.false_eq_true]
            (repeat refine EvC.seq ?_); refine EvC.condT (by simp only [sA, Nat.reduceEqDiff, if_true, if_false]) ?_
            (repeat refine EvC.seq ?_); refine EvC.reg ?_; simp (config := { maxSteps := 2000000 }) (disch := first | omega | rfl) only [sA]
            refine EvC.ret ?_
            try simp (config := { maxSteps := 2000000 }) (disch := first | omega | rfl) only [sA]
            exact leave_one rfl (by simp only [Tr.get_put, Nat.reduceEqDiff, if_true, if_false]; rfl) ⟨by rw [fin], HX.refl hw⟩
      · have hst : stepR (s[i] :: s.data.toList.drop (i + 1)) = some (n + 1) := by simp only [stepR, ← hm', hlead, hcont, if_neg hbad]
        have q1 : decide ((c' : Int) < (lo : Int)) = false := decide_eq_false (by omega)
        have q2 : decide ((c' : Int) > 1114111) = false := decide_eq_false (by omega)
        have nxt : utfR (s.size - (i + 1 + n)) (s.data.toList.drop (i + 1 + n)) = utfR s.size s.data.toList := by
          rw [← hc, hst]
          simp only [List.drop_succ_cons, List.drop_drop]
          rw [utfR_valid _ _ (by rw [List.length_drop, len_bytes]; omega), utfR_valid _ _ (by rw [List.length_drop, len_bytes]; omega)]
        by_cases h3 : 55296 ≤ c'
        · have q3 : decide ((c' : Int) ≥ 55296) = true := decide_eq_true (by omega)
          have q4 : decide ((c' : Int) < 57344) = false := decide_eq_false (by omega)
          (repeat refine EvC.seq ?_); refine EvC.reg ?_; simp (config := { maxSteps := 2000000 }) (disch := first | omega | rfl) only [sA, Nat.reduceEqDiff, if_true, if_false, e6, e7, q1, q2, q3, q4, Bool.false_eq_true]
          (repeat refine EvC.seq ?_); refine EvC.condF (by simp only [sA, Nat.reduceEqDiff, if_true, if_false]) (EvC.skip ?_)
          try simp (config := { maxSteps := 2000000 }) (disch := first | omega | rfl) only [thenC_normal]
          (repeat refine EvC.seq ?_); refine EvC.reg ?_; simp (config := { maxSteps := 2000000 }) (disch := first | omega | rfl) only [sA, Nat.reduceEqDiff, if_true, if_false, e3, e5, wrap_i64]
          exact ⟨s.size - (i + 1 + n), by omega, _, i + 1 + n, rfl, rfl, by omega, nxt, by simp only [Tr.get_put, reduceCtorEq, if_false]; exact e0, by simp only [Tr.get_put, Nat.reduceEqDiff, if_true, if_false]; exact congrArg (fun z => some (Value.int .i64 z)) (by omega)⟩
        · have q3 : decide ((c' : Int) ≥ 55296) = false := decide_eq_false (by omega)
          (repeat refine EvC.seq ?_); refine EvC.reg ?_; simp (config := { maxSteps := 2000000 }) (disch := first | omega | rfl) only [sA, Nat.reduceEqDiff, if_true, if_false, e6, e7, q1, q2, q3, Bool.false_eq_true]
          (repeat refine EvC.seq ?_); refine EvC.condF (by simp only [sA, Nat.reduceEqDiff, if_true, if_false]) (EvC.skip ?_)
          try simp (config := { maxSteps := 2000000 }) (disch := first | omega | rfl) only [thenC_normal]
          (repeat refine EvC.seq ?_); refine EvC.reg ?_; simp (config := { maxSteps := 2000000 }) (disch := first | omega | rfl) only [sA, Nat.reduceEqDiff, if_true, if_false, e3, e5, wrap_i64]
          exact ⟨s.size - (i + 1 + n), by omega, _, i + 1 + n, rfl, rfl, by omega, nxt, by simp only [Tr.get_put, reduceCtorEq, if_false]; exact e0, by simp only [Tr.get_put, Nat.reduceEqDiff, if_true, if_false]; exact congrArg (fun z => some (Value.int .i64 z)) (by omega)⟩
    · refine EvC.condF (by simp only [sA, Nat.reduceEqDiff, if_true, if_false]; exact congrArg _ (decide_eq_false (by omega))) (EvC.exit ?_)
      try simp (config := { maxSteps := 2000000 }) (disch := first | omega | rfl) only [sA, if_true]
      (repeat refine EvC.seq ?_); refine EvC.reg ?_; simp (config := { maxSteps := 2000000 }) (disch := first | omega | rfl) only [sA]
      refine EvC.ret (leave_one rfl (by simp only [Tr.get_put, Nat.reduceEqDiff, if_true, if_false]; rfl) ⟨?_, HX.refl hw⟩)
      rw [← hc, show s.size - i = 0 by omega, utfR]
  · exact ⟨_, 0, rfl, by omega, by omega, rfl, by simp only [Tr.get_put, reduceCtorEq, if_true, if_false], by simp only [Tr.get_put, Nat.reduceEqDiff, reduceCtorEq, if_true, if_false]; rfl⟩
end Go.Proofs.YtlllbkjiadcloaaDoor.hb
end

-- Y9
section
/- Which texts are those of integers: the program's test and the reference's are one. -/
namespace Go.Proofs.YtlllbkjiadcloaaDoor.hb
open Go Go.RowKit Go.Hb
variable {ok : Ok}
set_option maxRecDepth 10000
attribute [local irreducible] LX LG EL STG SOP SGO SGD SAL SRD SEF SEG SLK SCK ES
def canonS (s : ByteArray) : Bool := match parseD (bl s) with | none => false | some n => textD (negS (bl s)) n == bl s
theorem parseD_lt {l : List Nat} {n : Nat} (h : parseD l = some n) : n < big := by
  unfold parseD at h
  split at h
  · cases h
  · split at h
    · cases h
    · exact numD_lt _ 0 n (by rw [big_eq]; exact Nat.two_pow_pos _) h
theorem toNat_inj : ∀ {a b : List UInt8}, a.map UInt8.toNat = b.map UInt8.toNat → a = b
  | [], [], _ => rfl
  | x :: a, y :: b, h => by
    simp only [List.map_cons, List.cons.injEq] at h
    rw [UInt8.toNat_inj.1 h.1, toNat_inj h.2]
  | [], _ :: _, h => by simp at h
  | _ :: _, [], h => by simp at h
theorem data_beq (t s : ByteArray) : (t.data.toList == s.data.toList) = (bl t == bl s) := by
  by_cases h : t.data.toList = s.data.toList
  · rw [beq_iff_eq.2 h, beq_iff_eq.2 (show bl t = bl s by unfold bl; rw [h])]
  · have h2 : bl t ≠ bl s := fun h3 => h (toNat_inj h3)
    rw [beq_eq_false_iff_ne.2 h, beq_eq_false_iff_ne.2 h2]

-- term.integer
theorem integer_ev : TellsS okT 102 canonS := by
  intro s H hs hw
  refine EvF.enter rfl Tryd.func102 (by decide) rfl ?_
  repeat' (first | refine EvC.seq ?_ | refine EvC.scope ?_ | refine EvC.block ?_ | (refine EvC.skip ?_) | (refine EvC.exit ?_) | (refine EvC.ret ?_; try simp only [thenC_ret, inBlock_ret]) | (refine EvC.reg ?_; simp (config := { maxSteps := 2000000 }) (disch := first | omega | rfl) only [sA, initTm, Nat.reduceEqDiff, reduceCtorEq, if_true, if_false, cl124]))
  refine (parse_ev hs hw).mono ?_
  rintro v H1 ⟨hP, hx1⟩
  rcases hP with ⟨hnone, e, he, rfl⟩ | ⟨n, L, a, c, hsome, rfl, hr, hLb, hval, hlast, hlen⟩
  · have hx2 := (hx1.new (some (.row [.bool false, .slice none 0 0] 142))).put (i := H1.next) hx1.next (Nat.lt_succ_self _) (some (.row [.bool false, .slice none 0 0] 142))
    repeat' (first | refine EvC.seq ?_ | refine EvC.scope ?_ | refine EvC.block ?_ | (refine EvC.skip ?_) | (refine EvC.exit ?_) | (refine EvC.ret ?_; try simp only [thenC_ret, inBlock_ret]) | (refine EvC.reg ?_; simp (config := { maxSteps := 2000000 }) (disch := first | omega | rfl) only [sA, Nat.reduceEqDiff, reduceCtorEq, if_true, if_false, ine_t]) | (refine LX_go ?_; simp (config := { maxSteps := 2000000 }) (disch := first | omega | rfl) only [sA, dAlloc, Nat.reduceEqDiff, Nat.reduceAdd, one, reduceCtorEq, if_true, if_false, zr142, st142]) | (refine EvC.condT ?_ ?_; simp (config := { maxSteps := 2000000 }) (disch := first | omega | rfl) only [sA, Nat.reduceEqDiff, reduceCtorEq, if_true, if_false]; refine EvC_go ?_))
    exact leave_one rfl (by first | (simp only [sA, Nat.reduceEqDiff, reduceCtorEq, if_true, if_false]; rfl) | simp only []) ⟨by unfold canonS; rw [hnone], hx2⟩
  · have hn : n < big := parseD_lt hsome
    have hx2 := ((HX.refl hx1.wf).new (some (.row [.bool false, .slice none 0 0] 142))).put (i := H1.next) (Nat.le_refl _) (Nat.lt_succ_self _) (some (.row [.bool (negS (bl s) && decide (0 < L.length)), .slice a L.length c] 142))
    repeat' (first | refine EvC.seq ?_ | refine EvC.scope ?_ | refine EvC.block ?_ | (refine EvC.skip ?_; try simp only [thenC_normal]) | (refine EvC.exit ?_) | (refine EvC.ret ?_; try simp only [thenC_ret, inBlock_ret]) | (refine EvC.reg ?_; simp (config := { maxSteps := 2000000 }) (disch := first | omega | rfl) only [sA, Nat.reduceEqDiff, Nat.reduceAdd, reduceCtorEq, if_true, if_false, cutC, ld142, cl125, ine_f]) | (refine LX_go ?_; simp (config := { maxSteps := 2000000 }) (disch := first | omega | rfl) only [sA, dAlloc, Nat.reduceEqDiff, Nat.reduceAdd, one, reduceCtorEq, if_true, if_false, zr142, st142]) | (refine EvC.condT ?_ ?_; simp (config := { maxSteps := 2000000 }) (disch := first | omega | rfl) only [sA, Nat.reduceEqDiff, reduceCtorEq, if_true, if_false]; refine EvC_go ?_) | (refine EvC.condF ?_ ?_; simp (config := { maxSteps := 2000000 }) (disch := first | omega | rfl) only [sA, Nat.reduceEqDiff, reduceCtorEq, if_true, if_false]; refine EvC_go ?_))
    refine (text_ev hx2.wf (hr.keep hx2 hx1.wf) hLb hlen hval hn).mono ?_
    rintro v H2 ⟨⟨t, rfl, ht⟩, hx3⟩
    have htx : textD (negS (bl s) && decide (0 < L.length)) n = textD (negS (bl s)) n := by
      by_cases h0 : 0 < L.length
      · simp [h0]
      · have : L = [] := List.length_eq_zero_iff.1 (by omega)
        subst this
        have : n = 0 := by rw [← hval]; rfl
        subst this; rfl
    rw [htx] at ht
    have heq : (t.data.toList == s.data.toList) = canonS s := by
      rw [data_beq, ht]
      unfold canonS; rw [hsome]
    repeat' (first | refine EvC.seq ?_ | refine EvC.scope ?_ | refine EvC.block ?_ | (refine EvC.skip ?_) | (refine EvC.exit ?_) | (refine EvC.ret ?_; try simp only [thenC_ret, inBlock_ret]) | (refine EvC.reg ?_; simp (config := { maxSteps := 2000000 }) (disch := first | omega | rfl) only [sA, Nat.reduceEqDiff, reduceCtorEq, if_true, if_false, ieq_t, bEqS_data, heq]) | (refine LX_go ?_; simp (config := { maxSteps := 2000000 }) (disch := first | omega | rfl) only [sA, Nat.reduceEqDiff, reduceCtorEq, if_true, if_false]))
    exact leave_one rfl (by first | (simp only [Tr.get_put, Nat.reduceEqDiff, reduceCtorEq, if_true, if_false]; rfl) | simp only [Tr.get_put, Nat.reduceEqDiff, reduceCtorEq, if_true, if_false]) ⟨rfl, (hx1.trans hx2).trans hx3⟩

-- hornbeamref02.canonical
theorem canonical_ev : TellsS okT 106 canonS := by
  intro s H hs hw
  refine EvF.enter rfl Tryd.func106 (by decide) rfl ?_
  repeat' (first | refine EvC.seq ?_ | refine EvC.scope ?_ | refine EvC.block ?_ | (refine EvC.skip ?_) | (refine EvC.exit ?_) | (refine EvC.ret ?_; try simp only [thenC_ret, inBlock_ret]) | (refine EvC.reg ?_; simp (config := { maxSteps := 2000000 }) (disch := first | omega | rfl) only [sA, initTm, Nat.reduceEqDiff, reduceCtorEq, if_true, if_false, cl127]))
  refine (parseR_ev hs hw).mono ?_
  rintro v H1 ⟨hP, hx1⟩
  rcases hP with ⟨hnone, e, he, rfl⟩ | ⟨n, L, a, c, hsome, rfl, hr, hLb, hval, hlast, hlen⟩
  · have hx2 := (hx1.new (some (.row [.bool false, .slice none 0 0] 149))).put (i := H1.next) hx1.next (Nat.lt_succ_self _) (some (.row [.bool false, .slice none 0 0] 149))
    repeat' (first | refine EvC.seq ?_ | refine EvC.scope ?_ | refine EvC.block ?_ | (refine EvC.skip ?_) | (refine EvC.exit ?_) | (refine EvC.ret ?_; try simp only [thenC_ret, inBlock_ret]) | (refine EvC.reg ?_; simp (config := { maxSteps := 2000000 }) (disch := first | omega | rfl) only [sA, Nat.reduceEqDiff, reduceCtorEq, if_true, if_false, ine_t]) | (refine LX_go ?_; simp (config := { maxSteps := 2000000 }) (disch := first | omega | rfl) only [sA, dAlloc, Nat.reduceEqDiff, Nat.reduceAdd, one, reduceCtorEq, if_true, if_false, zr149, st149]) | (refine EvC.condT ?_ ?_; simp (config := { maxSteps := 2000000 }) (disch := first | omega | rfl) only [sA, Nat.reduceEqDiff, reduceCtorEq, if_true, if_false]; refine EvC_go ?_))
    exact leave_one rfl (by first | (simp only [sA, Nat.reduceEqDiff, reduceCtorEq, if_true, if_false]; rfl) | simp only []) ⟨by unfold canonS; rw [hnone], hx2⟩
  · have hn : n < big := parseD_lt hsome
    have hx2 := ((HX.refl hx1.wf).new (some (.row [.bool false, .slice none 0 0] 149))).put (i := H1.next) (Nat.le_refl _) (Nat.lt_succ_self _) (some (.row [.bool (negS (bl s) && decide (0 < L.length)), .slice a L.length c] 149))
    repeat' (first | refine EvC.seq ?_ | refine EvC.scope ?_ | refine EvC.block ?_ | (refine EvC.skip ?_; try simp only [thenC_normal]) | (refine EvC.exit ?_) | (refine EvC.ret ?_; try simp only [thenC_ret, inBlock_ret]) | (refine EvC.reg ?_; simp (config := { maxSteps := 2000000 }) (disch := first | omega | rfl) only [sA, Nat.reduceEqDiff, Nat.reduceAdd, reduceCtorEq, if_true, if_false, cutC, ld149, cl128, ine_f]) | (refine LX_go ?_; simp (config := { maxSteps := 2000000 }) (disch := first | omega | rfl) only [sA, dAlloc, Nat.reduceEqDiff, Nat.reduceAdd, one, reduceCtorEq, if_true, if_false, zr149, st149]) | (refine EvC.condT ?_ ?_; simp (config := { maxSteps := 2000000 }) (disch := first | omega | rfl) only [sA, Nat.reduceEqDiff, reduceCtorEq, if_true, if_false]; refine EvC_go ?_) | (refine EvC.condF ?_ ?_; simp (config := { maxSteps := 2000000 }) (disch := first | omega | rfl) only [sA, Nat.reduceEqDiff, reduceCtorEq, if_true, if_false]; refine EvC_go ?_))
    refine (textR_ev hx2.wf (hr.keep hx2 hx1.wf) hLb hlen hlast hval hn).mono ?_
    rintro v H2 ⟨⟨t, rfl, ht⟩, hx3⟩
    have htx : textD (negS (bl s) && decide (0 < L.length)) n = textD (negS (bl s)) n := by
      by_cases h0 : 0 < L.length
      · simp [h0]
      · have : L = [] := List.length_eq_zero_iff.1 (by omega)
        subst this
        have : n = 0 := by rw [← hval]; rfl
        subst this; rfl
    rw [htx] at ht
    have heq : (t.data.toList == s.data.toList) = canonS s := by
      rw [data_beq, ht]
      unfold canonS; rw [hsome]
    repeat' (first | refine EvC.seq ?_ | refine EvC.scope ?_ | refine EvC.block ?_ | (refine EvC.skip ?_) | (refine EvC.exit ?_) | (refine EvC.ret ?_; try simp only [thenC_ret, inBlock_ret]) | (refine LX_go ?_; simp (config := { maxSteps := 2000000 }) (disch := first | omega | rfl) only [sA, Nat.reduceEqDiff, reduceCtorEq, if_true, if_false, bEqS_data, heq]))
    exact leave_one rfl (by first | (simp only [Tr.get_put, Nat.reduceEqDiff, reduceCtorEq, if_true, if_false]; rfl) | simp only [Tr.get_put, Nat.reduceEqDiff, reduceCtorEq, if_true, if_false]) ⟨rfl, (hx1.trans hx2).trans hx3⟩

end Go.Proofs.YtlllbkjiadcloaaDoor.hb
end

-- Y10
section
/- Check, both sides: one. -/
namespace Go.Proofs.YtlllbkjiadcloaaDoor.hb
open Go Go.RowKit Go.Hb
variable {ok : Ok}
set_option maxRecDepth 10000
attribute [local irreducible] LX LG EL STG SOP SGO SGD SAL SRD SEF SEG SLK SCK ES
def utfS (s : ByteArray) : Bool := Lib.validD s.data.toList
def fltS (n : Int) : Bool := !(fnB n || fiB n || n == 9223372036854775808)
def nodeS : Tm → Int := nodeE utfS canonS fltS
theorem valid_tells : TellsS okT 101 utfS := fun _ _ hs hw => valid_ev (by decide) hw hs
theorem utf_tells : TellsS okT 105 utfS := fun s H hs hw => (utf_ref_ev (fun _ _ => rfl) (by decide) s H hs hw).mono fun v H' h => by
  have h' : v = .bool (utfR s.size s.data.toList) ∧ HX H H' := h
  rw [utfR_valid _ _ (by simp)] at h'; exact h'
theorem floats_tells : TellsU okT 107 fltS := fun n H hn hw => (floats_ev (fun _ _ => rfl) (by decide) n H hn hw).mono fun v H' h => by
  rw [floats_same n hn] at h; exact h
theorem nan_tells : TellsN okT 89 103 104 fnB fiB := fun n H hn hw => ⟨isnan_ev (fun _ _ => rfl) (by decide) n H hw, isinf_ev (fun f _ _ h => by rcases h with rfl | rfl <;> rfl) (by decide) (by decide) n H hw⟩
theorem node_tells : TellsT okT 84 nodeS := fun t cs H r hw => node_ev (fun _ _ => rfl) (by decide) (fun _ _ => rfl) (by decide) valid_tells integer_ev nan_tells r hw
theorem one_tells : TellsT okT 85 nodeS := fun t cs H r hw => one_ev (fun _ _ => rfl) (by decide) utf_tells canonical_ev floats_tells r hw
theorem nodes_tells : TellsT okT 13 fun t => cnt t 0 := fun t cs H r hw => nodes_ev (fun f _ _ h => by rcases h with rfl | rfl <;> rfl) (by decide) (by decide) r hw
theorem nodesR_tells : TellsT okT 14 fun t => cnt t 0 := fun t cs H r hw => nodes_ref_ev (fun f _ _ h => by rcases h with rfl | rfl <;> rfl) (by decide) (by decide) r hw
def checkS : Tm → Int := checkE nodeS
theorem check_tells : TellsT okT 15 checkS := check_ev nodes_tells (nodes_all_ev node_tells (fun _ _ => rfl) (by decide)) (fun _ _ => rfl) (by decide)
theorem checkR_tells : TellsT okT 16 checkS := ref_check_ev nodesR_tells (ref_all_ev one_tells (fun _ _ => rfl) (by decide)) (fun _ _ => rfl) (by decide)
end Go.Proofs.YtlllbkjiadcloaaDoor.hb
end

-- Z0
section
/- Terms that may be; small things. -/
namespace Go.Proofs.YtlllbkjiadcloaaDoor.hb
open Go Go.RowKit Go.Hb
def orZ (a b : Int) : Int := if a = 0 then b else a
theorem orZ_neg (x y : Int) : orZ (-x) (-y) = -(orZ x y) := by
  unfold orZ
  by_cases h : x = 0
  · subst h; simp
  · rw [if_neg h, if_neg (by omega)]
theorem orZ_zero {x y : Int} : orZ x y = 0 ↔ x = 0 ∧ y = 0 := by
  unfold orZ
  by_cases h : x = 0
  · rw [if_pos h]; simp [h]
  · rw [if_neg h]; simp [h]
theorem toList_inj {a b : ByteArray} (h : a.toList = b.toList) : a = b := by
  rw [toList_data, toList_data] at h
  obtain ⟨⟨a⟩⟩ := a; obtain ⟨⟨b⟩⟩ := b
  simp at h; rw [h]
/-- a term that may be -/
def Fine (t : Tm) : Prop := allE nodeS t = 0
theorem allL_mem {E : Tm → Int} : ∀ {l : List Tm}, allL E l = 0 → ∀ u ∈ l, allE E u = 0
  | [], _, u, hu => by simp at hu
  | t :: l, h, u, hu => by
    rw [allL] at h
    split at h
    · rename_i h0
      rcases List.mem_cons.1 hu with rfl | hu
      · exact h0
      · exact allL_mem h u hu
    · rename_i h0; exact absurd h h0
theorem Fine.node {t : Tm} (h : Fine t) : nodeS t = 0 := by
  unfold Fine at h
  rw [allE_eq] at h
  split at h
  · assumption
  · rename_i h0; exact absurd h h0
theorem Fine.args {t : Tm} (h : Fine t) : ∀ u ∈ t.args, Fine u := by
  have h1 := h.node
  unfold Fine at h
  rw [allE_eq, if_pos h1] at h
  exact allL_mem h
theorem node_kind {t : Tm} (h : nodeS t = 0) : 1 ≤ t.kind ∧ t.kind ≤ 5 ∧ blankB t = true ∧ 0 ≤ t.var ∧ (t.kind = 5 → 1 ≤ t.args.length ∧ t.args.length ≤ 64) ∧ (t.kind = 3 → canonS t.num = true) ∧ (t.kind = 4 → fltS t.bits = true) ∧ utfS t.name = true ∧ t.name.size ≤ 1000 := by
  unfold nodeS nodeE at h
  split at h
  · omega
  split at h
  · omega
  split at h
  · omega
  split at h
  · omega
  split at h
  · omega
  split at h
  · omega
  split at h
  · omega
  split at h
  · omega
  rename_i h1 h2 h3 h4 h5 h6 h7 h8
  refine ⟨by omega, by omega, by simpa using h2, by omega, fun h => ?_, fun h => ?_, fun h => ?_, by simpa using h5, by omega⟩
  · have := fun q => h4 ⟨h, q⟩; omega
  · cases hh : canonS t.num with
    | true => rfl
    | false => exact absurd ⟨h, hh⟩ h7
  · cases hh : fltS t.bits with
    | true => rfl
    | false => exact absurd ⟨h, hh⟩ h8
theorem isE_eq {s : ByteArray} (h : isE s = true) : s = ByteArray.empty := by
  unfold isE at h
  have h1 : s.toList = [] := by simpa using h
  apply toList_inj
  rw [h1]
  exact toList_empty.symm
theorem isE_size {s : ByteArray} (h : isE s = true) : s.size = 0 := by rw [isE_eq h]; rfl

theorem mem_args_size {t u : Tm} (h : u ∈ t.args) : SizeOf.sizeOf u < SizeOf.sizeOf t := by
  obtain ⟨k, s, w, b, v, l⟩ := t
  exact mem_size h
theorem blank_fields {t : Tm} (h : blankB t = true) : (t.kind ≠ 2 → t.kind ≠ 5 → t.name = ByteArray.empty) ∧ (t.kind ≠ 3 → t.num = ByteArray.empty) ∧ (t.kind ≠ 4 → t.bits = 0) ∧ (t.kind ≠ 1 → t.var = 0) ∧ (t.kind ≠ 5 → t.args = []) := by
  unfold blankB at h
  simp only [Bool.and_eq_true, Bool.or_eq_true, beq_iff_eq] at h
  obtain ⟨⟨⟨⟨h1, h2⟩, h3⟩, h4⟩, h5⟩ := h
  refine ⟨fun a b => ?_, fun a => ?_, fun a => ?_, fun a => ?_, fun a => ?_⟩
  · rcases h1 with (h | h) | h
    · exact absurd h a
    · exact absurd h b
    · exact isE_eq h
  · rcases h2 with h | h
    · exact absurd h a
    · exact isE_eq h
  · rcases h3 with h | h
    · exact absurd h a
    · exact h
  · rcases h4 with h | h
    · exact absurd h a
    · exact h
  · rcases h5 with h | h
    · exact absurd h a
    · exact List.length_eq_zero_iff.1 (by omega)
theorem tm_ext {t t' : Tm} (h1 : t.kind = t'.kind) (h2 : t.name = t'.name) (h3 : t.num = t'.num) (h4 : t.bits = t'.bits) (h5 : t.var = t'.var) (h6 : t.args = t'.args) : t = t' := by
  obtain ⟨k, s, u, b, v, l⟩ := t
  obtain ⟨k', s', u', b', v', l'⟩ := t'
  simp only [Tm.kind, Tm.name, Tm.num, Tm.bits, Tm.var, Tm.args] at *
  subst h1 h2 h3 h4 h5 h6; rfl
theorem check_zero {t : Tm} : checkS t = 0 ↔ cnt t 0 ≤ 4000 ∧ Fine t := by
  unfold checkS checkE Fine
  by_cases h : 4000 < cnt t 0
  · rw [if_pos h]; constructor
    · intro h; omega
    · intro h; omega
  · rw [if_neg h]; constructor
    · intro h'; exact ⟨by omega, h'⟩
    · intro h'; exact h'.2
end Go.Proofs.YtlllbkjiadcloaaDoor.hb
end

-- V1
section
/- Trees in memory of their own: the program's (own), the reference's (Own). -/
namespace Go.Hb
open Go Go.RowKit
theorem splice_at {cs vs : List Value} {o k : Nat} (h : o + vs.length ≤ cs.length) : (splice cs o vs)[k]? = if o ≤ k ∧ k < o + vs.length then vs[k - o]? else cs[k]? := by
  rw [splice_eq _ _ _ (by omega)]
  simp only [List.getElem?_append, List.getElem?_take, List.getElem?_drop, List.length_take, List.length_append]
  grind
theorem splice_same {cs vs : List Value} {o s : Nat} (h : o + s ≤ cs.length) (hv : vs.length = s) : ((splice cs o vs).drop o).take s = vs := by
  apply List.ext_getElem?
  intro k
  rw [List.getElem?_take, List.getElem?_drop, splice_at (by omega)]
  by_cases hk : k < s
  · rw [if_pos hk, if_pos (by omega), show o + k - o = k by omega]
  · rw [if_neg hk, List.getElem?_eq_none (by omega)]
theorem splice_other {cs vs : List Value} {o j s : Nat} (h : o + s ≤ cs.length) (hv : vs.length = s) (hd : j + s ≤ o ∨ o + s ≤ j) : ((splice cs o vs).drop j).take s = (cs.drop j).take s := by
  apply List.ext_getElem?
  intro k
  rw [List.getElem?_take, List.getElem?_drop, splice_at (by omega), List.getElem?_take, List.getElem?_drop]
  by_cases hk : k < s
  · rw [if_pos hk, if_neg (by omega), if_pos hk]
  · rw [if_neg hk, if_neg hk]
theorem mul6 {i j : Nat} (h : i < j) : i * 6 + 6 ≤ j * 6 := by omega
theorem HX.pt {A H : Heap} (h : HX A H) {i : Nat} {B0 : Blk} (hi : A.next ≤ i) (hg : H.get i = some B0) (B : Option Blk) : HX A (H.put i B) := h.put hi (h.wf i _ hg) B
theorem newput {H : Heap} (hw : H.wf) (A B : Blk) : ∃ H2, (H.new (some A)).put H.next (some B) = H2 ∧ HX H H2 ∧ H2.get H.next = some B ∧ H2.next = H.next + 1 ∧ H2.wf := by
  have hx := ((HX.refl hw).new (some A)).put (i := H.next) (Nat.le_refl _) (Nat.lt_succ_self _) (some B)
  exact ⟨_, rfl, hx, by rw [get_put, if_pos rfl], rfl, hx.wf⟩
end Go.Hb
namespace Go.Proofs.YtlllbkjiadcloaaDoor.hb
open Go Go.RowKit Go.Hb
variable {ok : Ok}
set_option maxRecDepth 10000
attribute [local irreducible] LX LG EL STG SOP SGO SGD SAL SRD SEF SEG SLK SCK ES
-- @veq
theorem fine_few {t : Tm} (h : Fine t) : t.args.length ≤ 64 := by
  have k := node_kind h.node
  by_cases h5 : t.kind = 5
  · exact (k.2.2.2.2.1 h5).2
  · rw [(blank_fields k.2.2.1).2.2.2.2 h5]; exact Nat.zero_le _
abbrev zero6 : List Value := [.int .i64 0, .string ByteArray.empty, .string ByteArray.empty, .int .u64 0, .int .i64 0, .slice none 0 0]

-- term.own
set_option maxHeartbeats 4000000 in
theorem ownT_ev {m : Nat} : ∀ {t : Tm} {cs : List Value} {H : Heap}, SizeOf.sizeOf t < m → RepT H t cs → Fine t → H.wf →
    EvF Tryd.prog okT 61 [.agg ⟨cs⟩] H fun v H' => ∃ cs', v = .agg ⟨cs'⟩ ∧ RepF H' 26 (Rg H.next H'.next) t cs' ∧ HX H H' := by
  induction m with
  | zero => intro t cs H h; omega
  | succ m ih =>
  intro t cs H hsz r hf hw
  have hbd := r.bd
  have hfew := fine_few hf
  obtain ⟨a, c, cells, rfl, -, -, -, -, -, rl⟩ := r.six
  refine EvF.enter rfl Tryd.func61 (by decide) rfl ?_
  (repeat refine EvC.seq ?_); refine EvC.reg ?_; simp (config := { maxSteps := 2000000 }) (disch := first | omega | rfl) only [sA, initTm, dBox, dAlloc, Value.cells, one, if_true, zr26]
  obtain ⟨H2, e2, hx2, gp, gq, hn2, hw2⟩ := new2 hw (.row (six t a c) 26) (.row zero6 26)
  simp only [e2]
  have q1 := row6 gp
  clear e2
  have hmost : t.args.length ≤ most := by unfold most; omega
  have ne1 : (H.next + 1 = H.next) = False := by simp
  have ne2 : (H.next = H.next + 1) = False := by simp
  by_cases h0 : t.args.length = 0
  · have h0' : (t.args.length : Int) = 0 := by omega
    have he : t.args = [] := List.length_eq_zero_iff.1 h0
    repeat' (first | refine EvC.seq ?_ | refine EvC.scope ?_ | refine EvC.block ?_ | (refine EvC.skip ?_) | (refine EvC.exit ?_) | (refine EvC.ret ?_; try simp only [thenC_ret, inBlock_ret]) | (refine EvC.reg ?_; simp (config := { maxSteps := 2000000 }) (disch := first | omega | rfl) only [sA, Nat.reduceEqDiff, Nat.reduceAdd, one, reduceCtorEq, if_true, if_false, cutC, fa26_5, ld24, ln24, st24, ld26, st26, q1, gp, gq, ieq_t h0', ne1]) | (refine EvC.condT ?_ ?_; simp (config := { maxSteps := 2000000 }) (disch := first | omega | rfl) only [sA, Nat.reduceEqDiff, reduceCtorEq, if_true, if_false]; refine EvC_go ?_))
    have hx3 := (hx2.pt (Nat.le_refl _) gp (some (.row [.int .i64 t.kind, .string t.name, .string t.num, .int .u64 t.bits, .int .i64 t.var, .slice none 0 0] 26))).pt (i := H.next + 1) (Nat.le_succ _) (by rw [get_put, if_neg (by omega)]; exact gq)
      (some (.row [.int .i64 t.kind, .string t.name, .string t.num, .int .u64 t.bits, .int .i64 t.var, .slice none 0 0] 26))
    refine leave_cell rfl (by first | (simp only [sA, Nat.reduceEqDiff, reduceCtorEq, if_true, if_false]; rfl) | simp only []) (by simp only [sA, Nat.reduceAdd, if_true, cutC, ld26]; rfl) ⟨_, rfl, ⟨none, 0, ?_, hbd, ?_⟩, hx3⟩
    · simp only [six, h0]
    · rw [he]; exact .nil _
  · have h0' : (t.args.length : Int) ≠ 0 := by omega
    have ne3 : (H.next = H2.next) = False := by simp; omega
    repeat' (first | refine EvC.seq ?_ | refine EvC.scope ?_ | refine EvC.block ?_ | (refine EvC.skip ?_; try simp only [thenC_normal]) | (refine EvC.exit ?_) | (refine EvC.ret ?_; try simp only [thenC_ret, inBlock_ret]) | (refine EvC.reg ?_; simp (config := { maxSteps := 2000000 }) (disch := first | omega | rfl) only [sA, Nat.reduceEqDiff, reduceCtorEq, if_true, if_false, cutC, fa26_5, ld24, ln24, q1, ieq_f h0', dMk_nat mk24, ne3]) | (refine EvC.condT ?_ ?_; simp (config := { maxSteps := 2000000 }) (disch := first | omega | rfl) only [sA, Nat.reduceEqDiff, reduceCtorEq, if_true, if_false]; refine EvC_go ?_) | (refine EvC.condF ?_ ?_; simp (config := { maxSteps := 2000000 }) (disch := first | omega | rfl) only [sA, Nat.reduceEqDiff, reduceCtorEq, if_true, if_false]; refine EvC_go ?_))
    obtain ⟨H3, e3, hx3, gr, hn3, hw3⟩ := new1 hw2 (.row (repL t.args.length zero6) 26)
    simp only [e3]
    clear e3
    have gp3 := hx3.get hw2 gp
    have gq3 := hx3.get hw2 gq
    have hx23 := hx2.trans hx3
    have hmax := rl.max
    rw [hn2] at gr hn3
    refine EvC.loop (fun k st => ∃ tm H' i cells' Si ai ci, st = ⟨tm, [], H'⟩ ∧ k = t.args.length - i ∧ i ≤ t.args.length ∧
      tm.get 1 = some (.pointer (some ⟨H.next, 0, none⟩)) ∧ tm.get 2 = some (.pointer (some ⟨H.next + 1, 0, none⟩)) ∧ tm.get 3 = some (.slice (some ⟨H.next + 2, 0, none⟩) t.args.length t.args.length) ∧
      tm.get 17 = some (.slice a t.args.length c) ∧ tm.get 18 = some (.int .i64 t.args.length) ∧ tm.get 19 = some (.int .i64 (i : Nat)) ∧
      H'.get H.next = some (.row (six t a c) 26) ∧ H'.get (H.next + 1) = some (.row zero6 26) ∧ H'.get (H.next + 2) = some (.row cells' 26) ∧ cells'.length = t.args.length * 6 ∧
      FLs H' 26 (Rg (H.next + 3) H'.next) (t.args.take i) cells' Si ai ci ∧ HX H H') ?_ t.args.length _ ?_
    · rintro k st ⟨tm, H', i, cells', Si, ai, ci, rfl, rfl, hi, t1, t2, t3, t17, t18, t19, gp', gq', gr', hlen, hfl, hx'⟩
      have q1 := row6 gp'
      by_cases hlt : i < t.args.length
      · obtain ⟨b, o, a1, c1, rfl, hld, hr1⟩ := rl.el hlt
        have hld1 := hx'.load hw hld
        repeat' (first | refine EvC.seq ?_ | refine EvC.scope ?_ | refine EvC.block ?_ | (refine EvC.skip ?_; try simp only [thenC_normal]) | (refine EvC.exit ?_) | (refine EvC.ret ?_; try simp only [thenC_ret, inBlock_ret]) | (refine EvC.reg ?_; simp (config := { maxSteps := 2000000 }) (disch := first | omega | rfl) only [sA, dAlloc, Nat.reduceEqDiff, Nat.reduceAdd, one, if_true, if_false, cutC, zr26, ld26, st26, ia24, cl61, t3, t17, t18, t19, decl hlt, hld1]) | (refine EvC.condT ?_ ?_; simp (config := { maxSteps := 2000000 }) (disch := first | omega | rfl) only [sA, if_true]; refine EvC_go ?_))
        obtain ⟨H4, e4, hx4, g4, hn4, hw4⟩ := newput hx'.wf (.row zero6 26) (.row (six t.args[i] a1 c1) 26)
        simp only [e4]
        clear e4
        have hs := args_size (List.getElem?_eq_getElem hlt)
        refine (ih (t := t.args[i]) (by omega) (hr1.mono (hx'.trans hx4) hw) (hf.args _ (List.getElem_mem _)) hw4).mono ?_
        rintro v H5 ⟨cs', rfl, ⟨a2, c2, rfl, hb2, hf2⟩, hx5⟩
        have hx45 := hx4.trans hx5
        have gr5 := hx45.get hx'.wf gr'
        have gp5 := hx45.get hx'.wf gp'
        have gq5 := hx45.get hx'.wf gq'
        have hle : i * 6 + 6 ≤ cells'.length := by rw [hlen]; exact mul6 hlt
        have hln := hx45.next
        have hln2 := hx5.next
        have hlt3 := hx'.wf _ _ gq'
        have hlt4 := hx'.wf _ _ gr'
        repeat' (first | refine EvC.seq ?_ | refine EvC.scope ?_ | refine EvC.block ?_ | (refine EvC.skip ?_) | (refine EvC.exit ?_) | (refine EvC.ret ?_; try simp only [thenC_ret, inBlock_ret]) | (refine EvC.reg ?_; simp (config := { maxSteps := 2000000 }) (disch := first | omega | rfl) only [sA, Nat.reduceEqDiff, if_true, if_false, t19, wrap_i64]) | (refine LX_go ?_; simp (config := { maxSteps := 2000000 }) (disch := first | omega | rfl) only [sA, Nat.reduceAdd, one, if_true, st26, gr5, hle]))
        have hx6 := (hx'.trans hx45).pt (i := H.next + 2) (by omega) gr5 (some (.row (Hb.splice cells' (i * 6) (six t.args[i] a2 c2)) 26))
        have et : t.args.take (i + 1) = t.args.take i ++ [t.args[i]] := (List.take_append_getElem hlt).symm
        have etl : (t.args.take i).length = i := by rw [List.length_take]; omega
        obtain ⟨Si', ai', ci', hsn⟩ : ∃ Si ai ci, FLs (H5.put (H.next + 2) (some (.row (Hb.splice cells' (i * 6) (six t.args[i] a2 c2)) 26))) 26 (Rg (H.next + 3) H5.next) (t.args.take (i + 1)) (Hb.splice cells' (i * 6) (six t.args[i] a2 c2)) Si ai ci := by
          rw [et]
          refine ⟨_, _, _, hfl.snoc (S' := Rg (H.next + 3) H5.next) (N := Rg H4.next H5.next) (fun n hn hl => ?_) hx'.wf (hf2.heap (fun n hn hl => ?_) hx5.wf) hb2 (fun n hn hs => ?_) (fun n hn => ?_) (fun n hn => ?_) (fun j hj => ?_) ?_⟩
          · have := hn.1
            rw [get_put, if_neg (by omega)]; exact hx45.keep n hl
          · have := hn.1
            rw [get_put, if_neg (by omega)]
          · have := hn.1; have := hs.2; omega
          · exact ⟨hn.1, by have := hn.2; omega⟩
          · exact ⟨by have := hn.1; omega, hn.2⟩
          · rw [etl] at hj
            exact splice_other hle rfl (.inl (mul6 hj))
          · rw [etl]
            exact splice_same hle rfl
        exact ⟨t.args.length - (i + 1), by omega, _, _, i + 1, Hb.splice cells' (i * 6) (six t.args[i] a2 c2), Si', ai', ci', rfl, rfl, by omega, (by first | (simp only [Tr.get_put, Nat.reduceEqDiff, if_false, t1]; rfl) | simp only [Tr.get_put, Nat.reduceEqDiff, if_false, t1]), (by first | (simp only [Tr.get_put, Nat.reduceEqDiff, if_false, t2]; rfl) | simp only [Tr.get_put, Nat.reduceEqDiff, if_false, t2]), (by first | (simp only [Tr.get_put, Nat.reduceEqDiff, if_false, t3]; rfl) | simp only [Tr.get_put, Nat.reduceEqDiff, if_false, t3]), (by first | (simp only [Tr.get_put, Nat.reduceEqDiff, if_false, t17]; rfl) | simp only [Tr.get_put, Nat.reduceEqDiff, if_false, t17]), (by first | (simp only [Tr.get_put, Nat.reduceEqDiff, if_false, t18]; rfl) | simp only [Tr.get_put, Nat.reduceEqDiff, if_false, t18]), (by first | (simp only [sA, Nat.reduceEqDiff, if_true, if_false]; rfl) | simp only []),
          by rw [get_put, if_neg (by omega)]; exact gp5, by rw [get_put, if_neg (by omega)]; exact gq5, by rw [get_put, if_pos rfl], by rw [splice_len hle]; exact hlen, hsn, hx6⟩
      · repeat' (first | refine EvC.seq ?_ | refine EvC.scope ?_ | refine EvC.block ?_ | (refine EvC.skip ?_) | (refine EvC.exit ?_; try simp only [sA, if_true]) | (refine EvC.ret ?_; try simp only [thenC_ret, inBlock_ret]) | (refine EvC.reg ?_; simp (config := { maxSteps := 2000000 }) (disch := first | omega | rfl) only [sA, Nat.reduceEqDiff, Nat.reduceAdd, one, if_true, if_false, cutC, fa26_5, st24, ld26, st26, t1, t2, t3, t18, t19, q1, gp', gq', decn hlt, ne1]) | (refine EvC.condT ?_ ?_; simp (config := { maxSteps := 2000000 }) (disch := first | omega | rfl) only [sA, if_true]; refine EvC_go ?_) | (refine EvC.condF ?_ ?_; simp (config := { maxSteps := 2000000 }) (disch := first | omega | rfl) only [sA, if_true]; refine EvC_go ?_))
        have hi' : i = t.args.length := by omega
        have hlt3 := hx'.wf _ _ gr'
        have hx7 := (hx'.pt (Nat.le_refl _) gp' (some (.row (six t (some ⟨H.next + 2, 0, none⟩) t.args.length) 26))).pt (i := H.next + 1) (Nat.le_succ _) (by rw [get_put, if_neg (by omega)]; exact gq')
          (some (.row (six t (some ⟨H.next + 2, 0, none⟩) t.args.length) 26))
        refine leave_cell rfl (by first | (simp only [sA, Nat.reduceEqDiff, if_false, t2]; rfl) | simp only []) (by first | (simp only [sA, Nat.reduceAdd, if_true, cutC, ld26]; rfl) | simp only [sA, Nat.reduceAdd, if_true, cutC, ld26]) ⟨_, rfl, ⟨some ⟨H.next + 2, 0, none⟩, t.args.length, rfl, hbd, ?_⟩, hx7⟩
        rw [hi', List.take_of_length_le (Nat.le_refl _)] at hfl
        refine (hfl.heap (fun n hn _ => ?_) hx'.wf).row (Nat.le_refl _) (Nat.le_trans hfew (by simp [maxLen])) (cells := cells') ?_ (by omega) ⟨by omega, hlt3⟩ (fun h => ?_) (fun n hn => ⟨by have := hn.1; omega, hn.2⟩)
        · have := hn.1
          rw [get_put, if_neg (by omega), get_put, if_neg (by omega)]
        · rw [get_put, if_neg (by omega), get_put, if_neg (by omega)]; exact gr'
        · have := h.1; omega
    · refine ⟨_, _, 0, repL t.args.length zero6, fun _ _ => False, fun _ => none, fun _ => 0, rfl, rfl, by omega, (by first | (simp only [Tr.get_put, Nat.reduceEqDiff, reduceCtorEq, if_true, if_false]; rfl) | simp only [Tr.get_put, Nat.reduceEqDiff, reduceCtorEq, if_true, if_false]), (by first | (simp only [Tr.get_put, Nat.reduceEqDiff, reduceCtorEq, if_true, if_false]; rfl) | simp only [Tr.get_put, Nat.reduceEqDiff, reduceCtorEq, if_true, if_false]), by rw [hn2]; first | (simp only [Tr.get_put, Nat.reduceEqDiff, reduceCtorEq, if_true, if_false]; rfl) | simp only [Tr.get_put, Nat.reduceEqDiff, reduceCtorEq, if_true, if_false], (by first | (simp only [Tr.get_put, Nat.reduceEqDiff, reduceCtorEq, if_true, if_false]; rfl) | simp only [Tr.get_put, Nat.reduceEqDiff, reduceCtorEq, if_true, if_false]), (by first | (simp only [Tr.get_put, Nat.reduceEqDiff, reduceCtorEq, if_true, if_false]; rfl) | simp only [Tr.get_put, Nat.reduceEqDiff, reduceCtorEq, if_true, if_false]), (by first | (simp only [sA, Nat.reduceEqDiff, reduceCtorEq, if_true, if_false]; rfl) | simp only []), gp3, gq3, gr, by rw [repL_length]; rfl, FLs.nil, hx23⟩
end Go.Proofs.YtlllbkjiadcloaaDoor.hb
end

-- V2
section
/- Trees in memory of their own: one more at a list's end; the reference's Own. -/
namespace Go.Hb
open Go Go.RowKit
theorem six_ones {t : Tm} {a : Option Addr} {c : Nat} : (six t a c).all one = true := rfl
theorem ones_chunks {cells : List Value} : ∀ n, n * 6 ≤ cells.length → (∀ i, i < n → ((cells.drop (i * 6)).take 6).all one = true) → (cells.take (n * 6)).all one = true
  | 0, _, _ => by simp
  | n + 1, h, hc => by
    rw [Nat.succ_mul, List.take_add, List.all_append, ones_chunks n (by omega) fun i hi => hc i (by omega), hc n (by omega)]; rfl
theorem take_chunk {cells : List Value} {i n : Nat} (h : i < n) (vs : List Value) (hn : n * 6 ≤ cells.length) : ((cells.take (n * 6) ++ vs).drop (i * 6)).take 6 = (cells.drop (i * 6)).take 6 := by
  have h1 : (cells.take (n * 6)).length = n * 6 := by rw [List.length_take]; omega
  rw [List.drop_append_of_le_length (by omega), List.take_append_of_le_length (by rw [List.length_drop]; omega), List.drop_take, List.take_take]
  congr 1; omega
/-- ONE MORE TREE AT A LIST's END -/
theorem FL.push {P : Program} {T t : TypeId} (hp : apOk P t T 6) {H : Heap} {S N S2 : Nat → Prop} {l : List Tm} {u : Tm} {a a' : Option Addr} {c c' c1 : Nat} {ad : Addr} (h : FL H T S l a c) (hw : H.wf)
    (hl : H.load ad (1 * 6) = some (six u a' c')) (hu : FL H T N u.args a' c') (hb : Bd u) (hN : ∀ n, N n → ¬ S n) (hS : ∀ n, S n → n < H.next) (hNl : ∀ n, N n → n < H.next) (hm : l.length + 1 ≤ most) (h2 : ∀ n, S n ∨ N n ∨ n = H.next → S2 n) :
    ∃ H2, dAp P #[t, t] (.slice a l.length c) (.slice (some ad) 1 c1) H = some (.val (.slice (some ⟨H.next, 0, none⟩) (l.length + 1) (l.length + 1)) H2) ∧ FL H2 T S2 (l ++ [u]) (some ⟨H.next, 0, none⟩) (l.length + 1) ∧ HK S H H2 ∧ H2.next = H.next + 1 := by
  have hmax : l.length + 1 ≤ maxLen := Nat.le_trans hm (by simp [most, maxLen])
  cases h with
  | nil =>
    have hx := (HX.refl hw).new (some (.row (six u a' c') T))
    refine ⟨_, dAp_new hp (by omega) hm hl six_ones, ?_, hx.hk _, rfl⟩
    refine .row S2 [u] H.next 1 (six u a' c') (fun _ => N) (fun _ => a') (fun _ => c') (Nat.le_refl _) hmax gt_new_eq (Nat.le_refl _) ?_ ?_ (h2 _ (.inr (.inr rfl))) ?_ ?_ ?_ ?_
    · intro i v hv
      match i, hv with
      | 0, hv => cases hv; rfl
    · intro i v hv
      match i, hv with
      | 0, hv => cases hv; exact hb
    · intro i _ hn; have := hNl _ hn; omega
    · intro i n _ hn; exact h2 n (.inr (.inl hn))
    · intro i j n hi hj _ _
      simp at hi hj; omega
    · intro i v hv
      match i, hv with
      | 0, hv => cases hv; exact hu.keep hx hw
  | row _ _ b c cells Si ai ci h1 h2' h3 h4 h5 h6 h7 h8 h9 h10 h11 =>
    have hcells : (cells.take (l.length * 6)).all one = true := ones_chunks _ h4 fun i hi => by rw [h5 i l[i] (List.getElem?_eq_getElem hi)]; exact six_ones
    have hbn : b < H.next := hw _ _ h3
    have hk : HK S H ((H.put b none).new (some (.row (cells.take (l.length * 6) ++ six u a' c') T))) := ((HK.refl hw).put (.inl h7) hbn none).new _
    have hkeep : ∀ n, n < H.next → n ≠ b → ((H.put b none).new (some (.row (cells.take (l.length * 6) ++ six u a' c') T))).get n = H.get n := fun n hn hne => by
      rw [gt_new_lt (by rw [next_put]; exact hn), gt_put_ne hne]
    refine ⟨_, dAp_row hp (by omega) hm hl six_ones h3 h4 hcells, ?_, hk, rfl⟩
    have hfs : FLs H T (fun n => ∃ i, i < l.length ∧ Si i n) l cells Si ai ci := ⟨h5, h6, fun i n hi hn => ⟨i, hi, hn⟩, h10, h11⟩
    have hSb : ¬ ∃ i, i < l.length ∧ Si i b := fun ⟨i, hi, hn⟩ => h8 i hi hn
    have hsub : ∀ n, (∃ i, i < l.length ∧ Si i n) → S n := fun n ⟨i, hi, hn⟩ => h9 i n hi hn
    have hlen : (cells.take (l.length * 6)).length = l.length * 6 := by rw [List.length_take]; omega
    have hs := hfs.snoc (H' := (H.put b none).new (some (.row (cells.take (l.length * 6) ++ six u a' c') T))) (S' := fun n => (∃ i, i < l.length ∧ Si i n) ∨ N n) (N := N) (cells' := cells.take (l.length * 6) ++ six u a' c') (t := u) (a := a') (c := c')
      (fun n hn hl => hkeep n hl (fun e => hSb (e ▸ hn))) hw (hu.heap (fun n hn hl => hkeep n hl fun e => hN n hn (e ▸ h7)) hw) hb (fun n hn hq => hN n hn (hsub n hq)) (fun n hn => .inl hn) (fun n hn => .inr hn)
      (fun i hi => take_chunk hi _ h4) (by
        rw [List.drop_append_of_le_length (by omega), List.drop_eq_nil_of_le (by omega)]; rfl)
    refine hs.row (S' := S2) (by simp) hmax gt_new_eq (by simp; omega) (h2 _ (.inr (.inr rfl))) (fun hq => ?_) (fun n hn => ?_)
    · rcases hq with hq | hq
      · have := hS _ (hsub _ hq); simp at this
      · have := hNl _ hq; simp at this
    · rcases hn with hn | hn
      · exact h2 n (.inl (hsub n hn))
      · exact h2 n (.inr (.inl hn))
end Go.Hb
namespace Go.Proofs.YtlllbkjiadcloaaDoor.hb
open Go Go.RowKit Go.Hb
variable {ok : Ok}
set_option maxRecDepth 10000
attribute [local irreducible] LX LG EL STG SOP SGO SGD SAL SRD SEF SEG SLK SCK ES
-- @veq
/-- so many nodes side by side at most, all through -/
inductive Few (n : Nat) : Tm → Prop
  | mk {t : Tm} : t.args.length ≤ n → (∀ u ∈ t.args, Few n u) → Few n t
theorem Few.len {n : Nat} {t : Tm} (h : Few n t) : t.args.length ≤ n := by cases h; assumption
theorem Few.args {n : Nat} {t : Tm} (h : Few n t) : ∀ u ∈ t.args, Few n u := by cases h; assumption
theorem Few.up {n m : Nat} {t : Tm} (f : Few n t) (h : n ≤ m) : Few m t := by
  induction f with
  | mk h1 _ ih => exact .mk (Nat.le_trans h1 h) ih
theorem Fine.few : ∀ (m : Nat) {t : Tm}, SizeOf.sizeOf t < m → Fine t → Few 64 t
  | 0, _, h, _ => by omega
  | m + 1, t, h, f => .mk (fine_few f) fun u hu => Fine.few m (by have := mem_args_size hu; omega) (f.args u hu)

-- hornbeamref02.Own
set_option maxHeartbeats 4000000 in
theorem ownR_ev {m : Nat} : ∀ {t : Tm} {cs : List Value} {H : Heap}, SizeOf.sizeOf t < m → RepT H t cs → Few 1000000 t → H.wf →
    EvF Tryd.prog okT 34 [.agg ⟨cs⟩] H fun v H' => ∃ cs', v = .agg ⟨cs'⟩ ∧ RepF H' 26 (Rg H.next H'.next) t cs' ∧ HX H H' := by
  induction m with
  | zero => intro t cs H h; omega
  | succ m ih =>
  intro t cs H hsz r hf hw
  have hbd := r.bd
  have hfew := hf.len
  obtain ⟨a, c, cells, rfl, -, -, -, -, -, rl⟩ := r.six
  refine EvF.enter rfl Tryd.func34 (by decide) rfl ?_
  (repeat refine EvC.seq ?_); refine EvC.reg ?_; simp (config := { maxSteps := 2000000 }) (disch := first | omega | rfl) only [sA, initTm, dBox, dAlloc, Value.cells, one, if_true, zr26]
  obtain ⟨H2, e2, hx2, gp, gq, hn2, hw2⟩ := new2 hw (.row (six t a c) 26) (.row zero6 26)
  simp only [e2]
  have q1 := row6 gp
  clear e2
  (repeat refine EvC.seq ?_); refine EvC.reg ?_; simp (config := { maxSteps := 2000000 }) (disch := first | omega | rfl) only [sA, dAlloc, Nat.reduceEqDiff, Nat.reduceAdd, one, reduceCtorEq, if_true, if_false, zr26, ld26, st26, q1]
  obtain ⟨H3, e3, hx3, gr, hn3, hw3⟩ := newput hw2 (.row zero6 26) (.row (six t a c) 26)
  simp only [e3]
  clear e3
  rw [hn2] at gr hn3
  simp only [hn2]
  (repeat refine EvC.seq ?_); refine EvC.reg ?_; simp (config := { maxSteps := 2000000 }) (disch := first | omega | rfl) only [sA, Nat.reduceEqDiff, Nat.reduceAdd, one, reduceCtorEq, if_true, if_false, fa26_5, st24, gr]
  have hx23 := hx2.trans hx3
  have gp3 := hx3.get hw2 gp
  have gq3 := hx3.get hw2 gq
  have hmax := rl.max
  (repeat refine EvC.seq ?_); refine EvC.reg ?_; simp (config := { maxSteps := 2000000 }) (disch := first | omega | rfl) only [sA]
  refine EvC.meet (fun st => ∃ tm H' ar cr, st = ⟨tm, [], H'⟩ ∧ tm.get 2 = some (.pointer (some ⟨H.next + 1, 0, none⟩)) ∧ tm.get 3 = some (.pointer (some ⟨H.next + 2, 0, none⟩)) ∧
      H'.get (H.next + 1) = some (.row zero6 26) ∧ H'.get (H.next + 2) = some (.row (six t ar cr) 26) ∧ FL H' 26 (Rg (H.next + 3) H'.next) t.args ar cr ∧ HX H H') ?_ ?_
  · refine EvC.block (EvC.loop (fun k st => ∃ tm H' i ar cr, st = ⟨tm, [], H'⟩ ∧ k = t.args.length - i ∧ i ≤ t.args.length ∧
      tm.get 1 = some (.pointer (some ⟨H.next, 0, none⟩)) ∧ tm.get 2 = some (.pointer (some ⟨H.next + 1, 0, none⟩)) ∧ tm.get 3 = some (.pointer (some ⟨H.next + 2, 0, none⟩)) ∧ tm.get 4 = some (.int .i64 (i : Nat)) ∧
      H'.get H.next = some (.row (six t a c) 26) ∧ H'.get (H.next + 1) = some (.row zero6 26) ∧
      H'.get (H.next + 2) = some (.row [.int .i64 t.kind, .string t.name, .string t.num, .int .u64 t.bits, .int .i64 t.var, .slice ar i cr] 26) ∧
      FL H' 26 (Rg (H.next + 3) H'.next) (t.args.take i) ar cr ∧ HX H H') ?_ t.args.length _ ?_)
    · rintro k st ⟨tm, H', i, ar, cr, rfl, rfl, hi, t1, t2, t3, t4, gp', gq', gr', hfl, hx'⟩
      have q1 := row6 gp'
      by_cases hlt : i < t.args.length
      · obtain ⟨b, o, a1, c1, rfl, hld, hr1⟩ := rl.el hlt
        have hld1 := hx'.load hw hld
        repeat' (first | refine EvC.seq ?_ | refine EvC.scope ?_ | refine EvC.block ?_ | (refine EvC.skip ?_; try simp only [thenC_normal]) | (refine EvC.exit ?_) | (refine EvC.ret ?_; try simp only [thenC_ret, inBlock_ret]) | (refine EvC.reg ?_; simp (config := { maxSteps := 2000000 }) (disch := first | omega | rfl) only [sA, Nat.reduceEqDiff, if_true, if_false, fa26_5, ld24, ln24, t1, t4, q1, decl hlt]) | (refine EvC.drw [([(2, 0), (3, 0), (4, 0), (5, 0), (6, 0)], some 7), ([(0, 0), (1, 0), (8, 1)], some 9), ([(10, 2)], some 11), ([], none)] ?_ ?_; kernel_rfl; simp (config := { maxSteps := 2000000 }) (disch := first | omega | rfl) only [sD, sA, Nat.reduceEqDiff, Nat.reduceAdd, reduceCtorEq, if_true, if_false, ld26, fa26_5, ld24, ia24, cl34, t1, t4, q1, hld1, isAlloc, isRead, reduceCtorEq]) | (refine EvC.condT ?_ ?_; simp (config := { maxSteps := 2000000 }) (disch := first | omega | rfl) only [sA, Nat.reduceEqDiff, if_true, if_false]; refine EvC_go ?_))
        have hb := hx'.bump 12
        have hs := args_size (List.getElem?_eq_getElem hlt)
        refine (ih (t := t.args[i]) (by omega) (hr1.mono hb hw) (hf.args _ (List.getElem_mem _)) hb.wf).mono ?_
        rintro v H5 ⟨cs', rfl, ⟨a2, c2, rfl, hb2, hf2⟩, hx5⟩
        have hb5 := ((HX.refl hx'.wf).bump 12).trans hx5
        have gp5 := hb5.get hx'.wf gp'
        have gq5 := hb5.get hx'.wf gq'
        have gr5 := hb5.get hx'.wf gr'
        have q3 := row6 gr5
        have q3' := row6 gr'
        have ean : apOk Tryd.prog 24 26 6 := ap24
        have hn5 := hx5.next
        have hn5' : H'.next + 12 ≤ H5.next := hn5
        have hltr := hx'.wf _ _ gr'
        have hx6 : HX H' (H5.put (H'.next + 8) (some (.row (six t.args[i] a2 c2) 26))) := hb5.put (i := H'.next + 8) (Nat.le_add_right _ _) (by omega) _
        obtain ⟨H6, e6⟩ : ∃ H6, H5.put (H'.next + 8) (some (.row (six t.args[i] a2 c2) 26)) = H6 := ⟨_, rfl⟩
        have g6 : H6.get (H'.next + 8) = some (.row (six t.args[i] a2 c2) 26) := by rw [← e6, get_put, if_pos rfl]
        have hn6 : H6.next = H5.next := by rw [← e6, next_put]
        have hf6 : FL H6 26 (Rg (H'.next + 12) H5.next) t.args[i].args a2 c2 := hf2.heap (fun n hn _ => by have : H'.next + 12 ≤ n := hn.1; rw [← e6, get_put, if_neg (by omega)]) hx5.wf
        rw [e6] at hx6
        have etl : (t.args.take i).length = i := by rw [List.length_take]; omega
        obtain ⟨H7, e7, hf7, hk7, hn7⟩ := FL.push (S2 := Rg (H.next + 3) (H6.next + 1)) (c1 := 1) ean (hfl.keep hx6 hx'.wf) hx6.wf (row6 g6).2.2.2.2.2.2 hf6 hb2 (fun n hn hs => by have : H'.next + 12 ≤ n := hn.1; have := hs.2; omega) (fun n hn => by have := hn.2; omega) (fun n hn => by have := hn.2; omega)
          (by rw [etl]; unfold most; omega) (fun n hn => by
            rcases hn with hn | hn | hn
            · exact ⟨hn.1, by have := hn.2; omega⟩
            · exact ⟨by have : H'.next + 12 ≤ n := hn.1; omega, by have := hn.2; omega⟩
            · exact ⟨by omega, by omega⟩)
        rw [etl] at e7 hf7
        have hx7 : HX H H7 := (hx'.trans hx6).then hk7 fun n hn hs => by have := hs.1; omega
        have gp7 := hk7.get hx6.wf (hx6.get hx'.wf gp') (fun hs => by have := hs.1; omega)
        have gq7 := hk7.get hx6.wf (hx6.get hx'.wf gq') (fun hs => by have := hs.1; omega)
        have gr7 := hk7.get hx6.wf (hx6.get hx'.wf gr') (fun hs => by have := hs.1; omega)
        have q3'' := row6 gr7
        repeat' (first | refine EvC.seq ?_ | refine EvC.scope ?_ | refine EvC.block ?_ | (refine EvC.skip ?_) | (refine EvC.exit ?_) | (refine EvC.ret ?_; try simp only [thenC_ret, inBlock_ret]) | (refine EvC.reg ?_; simp (config := { maxSteps := 2000000 }) (disch := first | omega | rfl) only [sA, Nat.reduceEqDiff, if_true, if_false, t4, wrap_i64]) | (refine SCK_go ?_; simp (config := { maxSteps := 2000000 }) (disch := first | omega | rfl) only [sV, sD, sA, Nat.reduceEqDiff, Nat.reduceAdd, Value.cells, one, reduceCtorEq, if_true, if_false, layC, fa26_5, st24, ld24, bs24_1, t3, q3, q3', e6, e7, gr7, isAlloc, isRead, dalloc, reduceCtorEq]))
        have et : t.args.take (i + 1) = t.args.take i ++ [t.args[i]] := (List.take_append_getElem hlt).symm
        exact ⟨t.args.length - (i + 1), by omega, _, _, i + 1, some ⟨H6.next, 0, none⟩, i + 1, rfl, rfl, by omega, (by first | (simp only [Tr.get_put, Nat.reduceEqDiff, if_false, t1]; rfl) | simp only [Tr.get_put, Nat.reduceEqDiff, if_false, t1]), (by first | (simp only [Tr.get_put, Nat.reduceEqDiff, if_false, t2]; rfl) | simp only [Tr.get_put, Nat.reduceEqDiff, if_false, t2]), (by first | (simp only [Tr.get_put, Nat.reduceEqDiff, if_false, t3]; rfl) | simp only [Tr.get_put, Nat.reduceEqDiff, if_false, t3]), (by first | (simp only [sA, Nat.reduceEqDiff, if_true, if_false]; rfl) | simp only []), by rw [get_put, if_neg (by omega)]; exact gp7, by rw [get_put, if_neg (by omega)]; exact gq7, by rw [get_put, if_pos rfl],
          by
            rw [et]
            refine (hf7.heap (H' := H7.put (H.next + 2) _) (fun n hn _ => ?_) hx7.wf).sub (fun n hn => ⟨hn.1, by rw [next_put, hn7]; exact hn.2⟩)
            have := hn.1
            rw [get_put, if_neg (by omega)], hx7.pt (by omega) gr7 _⟩
      · repeat' (first | refine EvC.seq ?_ | refine EvC.scope ?_ | refine EvC.block ?_ | (refine EvC.skip ?_) | (refine EvC.exit ?_; try simp only [sA, reduceCtorEq, if_true]) | (refine EvC.ret ?_; try simp only [thenC_ret, inBlock_ret]) | (refine EvC.reg ?_; simp (config := { maxSteps := 2000000 }) (disch := first | omega | rfl) only [sA, Nat.reduceEqDiff, if_true, if_false, fa26_5, ld24, ln24, t1, t4, q1, decn hlt]) | (refine EvC.condT ?_ ?_; simp (config := { maxSteps := 2000000 }) (disch := first | omega | rfl) only [sA, Nat.reduceEqDiff, if_true, if_false]; refine EvC_go ?_) | (refine EvC.condF ?_ ?_; simp (config := { maxSteps := 2000000 }) (disch := first | omega | rfl) only [sA, Nat.reduceEqDiff, if_true, if_false]; refine EvC_go ?_))
        have hi' : i = t.args.length := by omega
        subst hi'
        rw [List.take_of_length_le (Nat.le_refl _)] at hfl
        exact ⟨_, _, ar, cr, rfl, (by first | (simp only [Tr.get_put, Nat.reduceEqDiff, if_false, t2]; rfl) | simp only [Tr.get_put, Nat.reduceEqDiff, if_false, t2]), (by first | (simp only [Tr.get_put, Nat.reduceEqDiff, if_false, t3]; rfl) | simp only [Tr.get_put, Nat.reduceEqDiff, if_false, t3]), gq', gr', hfl, hx'⟩
    · exact ⟨_, _, 0, none, 0, rfl, rfl, by omega, (by first | (simp only [Tr.get_put, Nat.reduceEqDiff, reduceCtorEq, if_true, if_false]; rfl) | simp only [Tr.get_put, Nat.reduceEqDiff, reduceCtorEq, if_true, if_false]), (by first | (simp only [Tr.get_put, Nat.reduceEqDiff, reduceCtorEq, if_true, if_false]; rfl) | simp only [Tr.get_put, Nat.reduceEqDiff, reduceCtorEq, if_true, if_false]), (by first | (simp only [Tr.get_put, Nat.reduceEqDiff, reduceCtorEq, if_true, if_false]; rfl) | simp only [Tr.get_put, Nat.reduceEqDiff, reduceCtorEq, if_true, if_false]), (by first | (simp only [sA, Nat.reduceEqDiff, reduceCtorEq, if_true, if_false]; rfl) | simp only []), by rw [get_put, if_neg (by omega)]; exact gp3, by rw [get_put, if_neg (by omega)]; exact gq3, by rw [get_put, if_pos rfl], .nil _, hx23.pt (by omega) gr _⟩
  · rintro st ⟨tm, H', ar, cr, rfl, t2, t3, gq', gr', hfl, hx'⟩
    have q3 := row6 gr'
    have hlt := hx'.wf _ _ gr'
    repeat' (first | refine EvC.seq ?_ | refine EvC.scope ?_ | refine EvC.block ?_ | (refine EvC.skip ?_) | (refine EvC.exit ?_) | (refine EvC.ret ?_; try simp only [thenC_ret, inBlock_ret]) | (refine EvC.reg ?_; simp (config := { maxSteps := 2000000 }) (disch := first | omega | rfl) only [sA, Nat.reduceEqDiff, Nat.reduceAdd, one, if_true, if_false, ld26, st26, t2, t3, q3, gq']))
    have hx6 := hx'.pt (i := H.next + 1) (by omega) gq' (some (.row (six t ar cr) 26))
    refine leave_cell rfl (by first | (simp only [sA, Nat.reduceEqDiff, if_false, t2]; rfl) | simp only []) (by first | (simp only [sA, Nat.reduceAdd, if_true, cutC, ld26]; rfl) | simp only [sA, Nat.reduceAdd, if_true, cutC, ld26]) ⟨_, rfl, ⟨ar, cr, rfl, hbd, (hfl.heap (fun n hn _ => ?_) hx'.wf).sub fun n hn => ⟨by have := hn.1; omega, hn.2⟩⟩, hx6⟩
    have := hn.1
    rw [get_put, if_neg (by omega)]
end Go.Proofs.YtlllbkjiadcloaaDoor.hb
end

-- V3
section
/- A tree that its owner writes over. -/
namespace Go.Hb
open Go Go.RowKit
theorem FL.inv {H : Heap} {T : TypeId} {S : Nat → Prop} {l : List Tm} {a : Option Addr} {c : Nat} (h : FL H T S l a c) : (l = [] ∧ a = none ∧ c = 0) ∨ ∃ b cells Si ai ci, a = some ⟨b, 0, none⟩ ∧ l.length ≤ c ∧ c ≤ maxLen ∧
    H.get b = some (.row cells T) ∧ l.length * 6 ≤ cells.length ∧ S b ∧ (∀ i, i < l.length → ¬ Si i b) ∧ FLs H T S l cells Si ai ci := by
  cases h with
  | nil => exact .inl ⟨rfl, rfl, rfl⟩
  | row _ _ b c cells Si ai ci h1 h2 h3 h4 h5 h6 h7 h8 h9 h10 h11 => exact .inr ⟨b, cells, Si, ai, ci, rfl, h1, h2, h3, h4, h7, h8, ⟨h5, h6, h9, h10, h11⟩⟩
end Go.Hb
namespace Go.Proofs.YtlllbkjiadcloaaDoor.hb
open Go Go.RowKit Go.Hb
variable {ok : Ok}
set_option maxRecDepth 10000
attribute [local irreducible] LX LG EL STG SOP SGO SGD SAL SRD SEF SEG SLK SCK ES
-- @veq
abbrev mark6 (k : Int) (s : ByteArray) : List Value := [.int .i64 k, .string s, .string ByteArray.empty, .int .u64 0, .int .i64 0, .slice none 0 0]

-- hornbeamlaw02.marked
set_option maxHeartbeats 4000000 in
theorem marked_ev {s : ByteArray} {m : Nat} : ∀ {t : Tm} {cs : List Value} {S : Nat → Prop} {H : Heap}, SizeOf.sizeOf t < m → RepF H 26 S t cs → Few 1000000 t → (∀ n, S n → n < H.next) → H.wf →
    EvF Tryd.prog okT 23 [.agg ⟨cs⟩, .string s] H fun _ H' => HK S H H' := by
  induction m with
  | zero => intro t cs S H h; omega
  | succ m ih =>
  intro t cs S H hsz r hfew hS hw
  obtain ⟨a, c, rfl, hbd, hf⟩ := r
  have hlen := hfew.len
  refine EvF.enter rfl Tryd.func23 (by decide) rfl ?_
  (repeat refine EvC.seq ?_); refine EvC.reg ?_; simp (config := { maxSteps := 2000000 }) (disch := first | omega | rfl) only [sA, initTm, dBox, Value.cells, one, reduceCtorEq, if_true, if_false]
  obtain ⟨H2, e2, hx2, gp, hn2, hw2⟩ := new1 hw (.row (six t a c) 26)
  simp only [e2]
  clear e2
  (repeat refine EvC.seq ?_); refine EvC.reg ?_; simp (config := { maxSteps := 2000000 }) (disch := first | omega | rfl) only [sA]
  have ean : apOk Tryd.prog 24 26 6 := ap24
  rcases hf.inv with ⟨he, rfl, rfl⟩ | ⟨b, cells, Si, ai, ci, rfl, hlc, hcm, gb, hcl, hSb, hnb, hfs⟩
  · have he0 : t.args.length = 0 := by rw [he]; rfl
    have q1 := row6 gp
    refine EvC.block (EvC.loop1 ?_)
    have hd : ¬ (0 : Nat) < t.args.length := by omega
    have hd' : decide ((0 : Int) < (t.args.length : Int)) = false := decide_eq_false (by omega)
    repeat' (first | refine EvC.seq ?_ | refine EvC.scope ?_ | refine EvC.block ?_ | (refine EvC.skip ?_) | (refine EvC.exit ?_; try simp only [sA, if_true]) | (refine EvC.ret ?_; try simp only [thenC_ret, inBlock_ret]) | (refine EvC.reg ?_; simp (config := { maxSteps := 2000000 }) (disch := first | omega | rfl) only [sA, Nat.reduceEqDiff, Nat.reduceAdd, Value.cells, one, reduceCtorEq, if_true, if_false, Nat.reduceLeDiff, layC, fa26_5, ld24, ln24, bd26, bs24_2, q1, hd']) | (refine EvC.condT ?_ ?_; simp (config := { maxSteps := 2000000 }) (disch := first | omega | rfl) only [sA, Nat.reduceEqDiff, reduceCtorEq, if_true, if_false]; refine EvC_go ?_) | (refine EvC.condF ?_ ?_; simp (config := { maxSteps := 2000000 }) (disch := first | omega | rfl) only [sA, Nat.reduceEqDiff, reduceCtorEq, if_true, if_false]; refine EvC_go ?_))
    obtain ⟨H6, e6, hx6, g6, hn6, hw6⟩ := new1 hw2 (.row (mark6 0 s ++ mark6 0 s) 26)
    have e6' := e6
    simp only [mark6, List.cons_append, List.nil_append] at e6'
    simp only [e6']
    have l6 : H6.load ⟨H2.next, 0, none⟩ (2 * 6) = some (mark6 0 s ++ mark6 0 s) := by unfold Heap.load Heap.cells; simp only [g6]; rfl
    have e7 : dAp Tryd.prog #[24, 24] (.slice none t.args.length 0) (.slice (some ⟨H2.next, 0, none⟩) 2 2) H6 = some (.val (.slice (some ⟨H6.next, 0, none⟩) 2 2) (H6.new (some (.row (mark6 0 s ++ mark6 0 s) 26)))) := by
      rw [he0]; exact dAp_new ean (by omega) (by simp [most]) l6 rfl
    obtain ⟨H7, e8, hx7, g7, hn7, hw7⟩ := new1 hw6 (.row (mark6 0 s ++ mark6 0 s) 26)
    have gp7 := hx7.get hw6 (hx6.get hw2 gp)
    rw [e8] at e7
    repeat' (first | refine EvC.seq ?_ | refine EvC.scope ?_ | refine EvC.block ?_ | (refine EvC.skip ?_) | (refine EvC.exit ?_) | (refine EvC.ret ?_; try simp only [thenC_ret, inBlock_ret]) | (refine LX_go ?_; simp (config := { maxSteps := 2000000 }) (disch := first | omega | rfl) only [sA, Nat.reduceEqDiff, Nat.reduceAdd, one, reduceCtorEq, if_true, if_false, fa26_5, st24, e7, gp7]))
    exact leave_zero' rfl (((hx2.trans hx6).trans hx7).pt (Nat.le_refl _) gp7 _ |>.hk S)
  · refine EvC.meet (fun st => ∃ tm H' cells', st = ⟨tm, [], H'⟩ ∧ tm.get 1 = some (.string s) ∧ tm.get 2 = some (.pointer (some ⟨H.next, 0, none⟩)) ∧ H'.get H.next = some (.row (six t (some ⟨b, 0, none⟩) c) 26) ∧
      H'.get b = some (.row cells' 26) ∧ t.args.length * 6 ≤ cells'.length ∧ (∀ j, j < t.args.length → ((cells'.drop (j * 6)).take 6).all one = true) ∧ HK S H H') ?_ ?_
    · refine EvC.block (EvC.loop (fun k st => ∃ tm H' i cells', st = ⟨tm, [], H'⟩ ∧ k = t.args.length - i ∧ i ≤ t.args.length ∧ tm.get 1 = some (.string s) ∧ tm.get 2 = some (.pointer (some ⟨H.next, 0, none⟩)) ∧ tm.get 4 = some (.int .i64 (i : Nat)) ∧
        H'.get H.next = some (.row (six t (some ⟨b, 0, none⟩) c) 26) ∧ H'.get b = some (.row cells' 26) ∧ t.args.length * 6 ≤ cells'.length ∧ (∀ j, j < t.args.length → ((cells'.drop (j * 6)).take 6).all one = true) ∧
        (∀ j, i ≤ j → j < t.args.length → (cells'.drop (j * 6)).take 6 = (cells.drop (j * 6)).take 6) ∧ (∀ j n, i ≤ j → j < t.args.length → Si j n → H'.get n = H.get n) ∧ HK S H H') ?_ t.args.length _ ?_)
      · rintro k st ⟨tm, H', i, cells', rfl, rfl, hi, t1, t2, t4, gp', gb', hcl', hone, hsame, hkeep, hk'⟩
        have q1 := row6 gp'
        have hmx : t.args.length ≤ 9223372036854775807 := by omega
        by_cases hlt : i < t.args.length
        · have hu := List.getElem?_eq_getElem hlt
          have hld : H'.load ⟨b, i * 6, none⟩ 6 = some (six t.args[i] (ai i) (ci i)) := by
            unfold Heap.load Heap.cells
            simp only [gb', hsame i (Nat.le_refl _) hlt, hfs.el i _ hu]
            rfl
          have hle : i * 6 + 6 ≤ cells'.length := by have := mul6 hlt; omega
          repeat' (first | refine EvC.seq ?_ | refine EvC.scope ?_ | refine EvC.block ?_ | (refine EvC.skip ?_; try simp only [thenC_normal]) | (refine EvC.exit ?_) | (refine EvC.ret ?_; try simp only [thenC_ret, inBlock_ret]) | (refine EvC.reg ?_; simp (config := { maxSteps := 2000000 }) (disch := first | omega | rfl) only [sA, Nat.reduceEqDiff, if_true, if_false, fa26_5, ld24, ln24, ia24, ld26, cl23, t1, t2, t4, q1, decl hlt, hld]) | (refine EvC.condT ?_ ?_; simp (config := { maxSteps := 2000000 }) (disch := first | omega | rfl) only [sA, Nat.reduceEqDiff, if_true, if_false]; refine EvC_go ?_))
          have hs := args_size hu
          have hfi := (hfs.fl i _ hu).heap (H' := H') (fun n hn _ => hkeep i n (Nat.le_refl _) hlt hn) hw
          have hSn : ∀ n, S n → n < H'.next := fun n hn => Nat.lt_of_lt_of_le (hS n hn) hk'.next
          refine (ih (t := t.args[i]) (by omega) ⟨ai i, ci i, rfl, hfs.bd i _ hu, hfi⟩ (hfew.args _ (List.getElem_mem _)) (fun n hn => hSn n (hfs.sub i n hlt hn)) hk'.wf).mono ?_
          rintro v H5 hk5
          have gp5 := hk5.get hk'.wf gp' (fun hq => by have := hS _ (hfs.sub i _ hlt hq); omega)
          have gb5 := hk5.get hk'.wf gb' (fun hq => hnb i hlt hq)
          have q2 := row6 gp5
          repeat' (first | refine EvC.seq ?_ | refine EvC.scope ?_ | refine EvC.block ?_ | (refine EvC.skip ?_) | (refine EvC.exit ?_) | (refine EvC.ret ?_; try simp only [thenC_ret, inBlock_ret]) | (refine EvC.reg ?_; simp (config := { maxSteps := 2000000 }) (disch := first | omega | rfl) only [sA, Nat.reduceEqDiff, Nat.reduceAdd, Value.cells, one, if_true, if_false, Nat.reduceLeDiff, layC, fa26_5, ld24, ia24, bd26, st26, t1, t2, t4, q2, gb5, hle, wrap_i64]))
          have hmk : (mark6 2 s).length = 6 := rfl
          refine ⟨t.args.length - (i + 1), by omega, _, _, i + 1, Hb.splice cells' (i * 6) (mark6 2 s), rfl, rfl, by omega, (by first | (simp only [Tr.get_put, Nat.reduceEqDiff, if_false, t1]; rfl) | simp only [Tr.get_put, Nat.reduceEqDiff, if_false, t1]), (by first | (simp only [Tr.get_put, Nat.reduceEqDiff, if_false, t2]; rfl) | simp only [Tr.get_put, Nat.reduceEqDiff, if_false, t2]), (by first | (simp only [sA, Nat.reduceEqDiff, if_true, if_false]; rfl) | simp only []), by rw [get_put, if_neg (fun e => by have := hS b hSb; omega)]; exact gp5, by rw [get_put, if_pos rfl], by rw [splice_len (by rw [hmk]; exact hle)]; exact hcl',
            fun j hj => ?_, fun j hij hj => ?_, fun j n hij hj hn => ?_, ?_⟩
          · by_cases hji : j = i
            · subst hji; rw [splice_same hle rfl]; rfl
            · rw [splice_other hle rfl (by rcases Nat.lt_or_gt_of_ne hji with h | h; exact .inl (mul6 h); exact .inr (mul6 h))]; exact hone j hj
          · rw [splice_other hle rfl (.inr (mul6 (by omega)))]; exact hsame j (by omega) hj
          · have hnb' : n ≠ b := fun e => hnb j hj (e ▸ hn)
            rw [get_put, if_neg hnb', hk5.keep n (hSn n (hfs.sub j n hj hn)) (fun hq => by have := hfs.one i j n hlt hj hq hn; omega)]; exact hkeep j n (by omega) hj hn
          · exact (hk'.trans (hk5.sub fun n _ hn => hfs.sub i n hlt hn)).put (.inl hSb) (hk5.wf _ _ gb5) _
        · repeat' (first | refine EvC.seq ?_ | refine EvC.scope ?_ | refine EvC.block ?_ | (refine EvC.skip ?_) | (refine EvC.exit ?_; try simp only [sA, reduceCtorEq, if_true]) | (refine EvC.ret ?_; try simp only [thenC_ret, inBlock_ret]) | (refine EvC.reg ?_; simp (config := { maxSteps := 2000000 }) (disch := first | omega | rfl) only [sA, Nat.reduceEqDiff, if_true, if_false, fa26_5, ld24, ln24, t2, t4, q1, decn hlt]) | (refine EvC.condT ?_ ?_; simp (config := { maxSteps := 2000000 }) (disch := first | omega | rfl) only [sA, Nat.reduceEqDiff, if_true, if_false]; refine EvC_go ?_) | (refine EvC.condF ?_ ?_; simp (config := { maxSteps := 2000000 }) (disch := first | omega | rfl) only [sA, Nat.reduceEqDiff, if_true, if_false]; refine EvC_go ?_))
          exact ⟨_, _, cells', rfl, (by first | (simp only [Tr.get_put, Nat.reduceEqDiff, if_false, t1]; rfl) | simp only [Tr.get_put, Nat.reduceEqDiff, if_false, t1]), (by first | (simp only [Tr.get_put, Nat.reduceEqDiff, if_false, t2]; rfl) | simp only [Tr.get_put, Nat.reduceEqDiff, if_false, t2]), gp', gb', hcl', hone, hk'⟩
      · exact ⟨_, _, 0, cells, rfl, rfl, by omega, (by first | (simp only [Tr.get_put, Nat.reduceEqDiff, reduceCtorEq, if_true, if_false]; rfl) | simp only [Tr.get_put, Nat.reduceEqDiff, reduceCtorEq, if_true, if_false]), (by first | (simp only [Tr.get_put, Nat.reduceEqDiff, reduceCtorEq, if_true, if_false]; rfl) | simp only [Tr.get_put, Nat.reduceEqDiff, reduceCtorEq, if_true, if_false]), (by first | (simp only [sA, Nat.reduceEqDiff, reduceCtorEq, if_true, if_false]; rfl) | simp only []), gp, hx2.get hw gb, hcl, fun j hj => by rw [hfs.el j _ (List.getElem?_eq_getElem hj)]; exact six_ones, fun _ _ _ => rfl, fun j n _ hj hn => hx2.keep n (hS n (hfs.sub j n hj hn)), hx2.hk S⟩
    · rintro st ⟨tm, H', cells', rfl, t1, t2, gp', gb', hcl', hone, hk'⟩
      have q1 := row6 gp'
      repeat' (first | refine EvC.seq ?_ | refine EvC.scope ?_ | refine EvC.block ?_ | (refine EvC.skip ?_) | (refine EvC.exit ?_) | (refine EvC.ret ?_; try simp only [thenC_ret, inBlock_ret]) | (refine EvC.reg ?_; simp (config := { maxSteps := 2000000 }) (disch := first | omega | rfl) only [sA, Nat.reduceEqDiff, Nat.reduceAdd, Value.cells, one, if_true, if_false, Nat.reduceLeDiff, layC, fa26_5, ld24, bd26, bs24_2, t1, t2, q1]))
      obtain ⟨H6, e6, hx6, g6, hn6, hw6⟩ := new1 hk'.wf (.row (mark6 0 s ++ mark6 0 s) 26)
      have e6' := e6
      simp only [mark6, List.cons_append, List.nil_append] at e6'
      simp only [e6']
      have l6 : H6.load ⟨H'.next, 0, none⟩ (2 * 6) = some (mark6 0 s ++ mark6 0 s) := by unfold Heap.load Heap.cells; simp only [g6]; rfl
      have gb6 := hx6.get hk'.wf gb'
      have e7 : dAp Tryd.prog #[24, 24] (.slice (some ⟨b, 0, none⟩) t.args.length c) (.slice (some ⟨H'.next, 0, none⟩) 2 2) H6 = _ :=
        dAp_row ean (by omega) (by unfold most; omega) l6 rfl gb6 hcl' (ones_chunks _ hcl' hone)
      have hb6 : H.next ≠ b := fun e => by have := hS b hSb; omega
      have gp6 := hx6.get hk'.wf gp'
      have hk8 : HK S H ((H6.put b none).new (some (.row (cells'.take (t.args.length * 6) ++ (mark6 0 s ++ mark6 0 s)) 26))) := ((hk'.trans (hx6.hk S)).put (.inl hSb) (hw6 _ _ gb6) none).new _
      obtain ⟨H8, e8⟩ : ∃ H8, (H6.put b none).new (some (.row (cells'.take (t.args.length * 6) ++ (mark6 0 s ++ mark6 0 s)) 26)) = H8 := ⟨_, rfl⟩
      have gp8 : H8.get H.next = some (.row (six t (some ⟨b, 0, none⟩) c) 26) := by
        rw [← e8, gt_new_lt (by rw [next_put]; exact hw6 _ _ gp6), gt_put_ne hb6]; exact gp6
      rw [e8] at e7 hk8
      repeat' (first | refine EvC.seq ?_ | refine EvC.scope ?_ | refine EvC.block ?_ | (refine EvC.skip ?_) | (refine EvC.exit ?_) | (refine EvC.ret ?_; try simp only [thenC_ret, inBlock_ret]) | (refine LX_go ?_; simp (config := { maxSteps := 2000000 }) (disch := first | omega | rfl) only [sA, Nat.reduceEqDiff, Nat.reduceAdd, one, if_true, if_false, fa26_5, st24, t2, e7, gp8]))
      exact leave_zero' rfl (hk8.put (.inr (Nat.le_refl _)) (hk8.wf _ _ gp8) _)
end Go.Proofs.YtlllbkjiadcloaaDoor.hb
end

-- Z16
section
/- Terms that are the same. -/
namespace Go.Proofs.YtlllbkjiadcloaaDoor.hb
open Go Go.RowKit Go.Hb
variable {ok : Ok}
set_option maxRecDepth 10000
attribute [local irreducible] LX LG EL STG SOP SGO SGD SAL SRD SEF SEG SLK SCK ES
-- @veq
noncomputable def eqT (t t' : Tm) : Bool := @decide (t = t') (Classical.propDecidable _)
theorem eqT_t {t t' : Tm} (h : t = t') : eqT t t' = true := by unfold eqT; exact @decide_eq_true _ (Classical.propDecidable _) h
theorem eqT_f {t t' : Tm} (h : t ≠ t') : eqT t t' = false := by unfold eqT; exact @decide_eq_false _ (Classical.propDecidable _) h
theorem eqT_iff {t t' : Tm} : eqT t t' = true ↔ t = t' := by unfold eqT; exact @decide_eq_true_iff _ (Classical.propDecidable _)
theorem sbeq_t {a b : ByteArray} (h : a = b) : (a.toList == b.toList) = true := by rw [h]; exact beq_self_eq_true _
theorem sbeq_f {a b : ByteArray} (h : a ≠ b) : (a.toList == b.toList) = false := by
  rw [beq_eq_false_iff_ne]; exact fun q => h (toList_inj q)

-- hornbeamref02.Same
set_option maxHeartbeats 4000000 in
theorem same_ev {m : Nat} : ∀ {t t' : Tm} {cs cs' : List Value} {H : Heap}, SizeOf.sizeOf t < m → RepT H t cs → RepT H t' cs' → H.wf →
    EvF Tryd.prog okT 20 [.agg ⟨cs⟩, .agg ⟨cs'⟩] H fun v H' => v = .bool (eqT t t') ∧ HX H H' := by
  induction m with
  | zero => intro t t' cs cs' H h; omega
  | succ m ih =>
  intro t t' cs cs' H hsz r r' hw
  obtain ⟨a, c, cells, rfl, b1, b2, b3, b4, b5, rl⟩ := r.six
  obtain ⟨a', c', cells', rfl, b1', b2', b3', b4', b5', rl'⟩ := r'.six
  refine EvF.enter rfl Tryd.func20 (by decide) rfl ?_
  (repeat refine EvC.seq ?_); refine EvC.reg ?_; simp (config := { maxSteps := 2000000 }) (disch := first | omega | rfl) only [sA, initTm, dBox, Nat.reduceEqDiff, Value.cells, one, reduceCtorEq, if_true, if_false]
  obtain ⟨H2, e2, hx2, gp, gq, hnx, hw2⟩ := new2 hw (.row (six t a c) 26) (.row (six t' a' c') 26)
  simp only [e2]
  have q1 := row6 gp
  have q2 := row6 gq
  clear e2
  by_cases k1 : t.kind = t'.kind
  rotate_left
  · repeat' (first | refine EvC.seq ?_ | refine EvC.scope ?_ | refine EvC.block ?_ | (refine EvC.skip ?_) | (refine EvC.exit ?_) | (refine EvC.ret ?_; try simp only [thenC_ret, inBlock_ret]) | (refine EvC.reg ?_; simp (config := { maxSteps := 2000000 }) (disch := first | omega | rfl) only [sA, Nat.reduceEqDiff, reduceCtorEq, if_true, if_false, fa26_0, ld3, ine_t k1, q1, q2]) | (refine EvC.condT ?_ ?_; simp (config := { maxSteps := 2000000 }) (disch := first | omega | rfl) only [sA, Nat.reduceEqDiff, reduceCtorEq, if_true, if_false]; refine EvC_go ?_))
    exact leave_one rfl (by first | (simp only [sA, Nat.reduceEqDiff, reduceCtorEq, if_true, if_false]; rfl) | simp only []) ⟨by rw [eqT_f (fun h => k1 (by rw [h]))], hx2⟩
  by_cases k2 : t.name = t'.name
  rotate_left
  · repeat' (first | refine EvC.seq ?_ | refine EvC.scope ?_ | refine EvC.block ?_ | (refine EvC.skip ?_) | (refine EvC.exit ?_) | (refine EvC.ret ?_; try simp only [thenC_ret, inBlock_ret]) | (refine EvC.reg ?_; simp (config := { maxSteps := 2000000 }) (disch := first | omega | rfl) only [sA, Nat.reduceEqDiff, reduceCtorEq, if_true, if_false, fa26_0, ld3, fa26_1, ld9, ine_f k1, q1, q2, dBin_neqS, sbeq_f k2, Bool.not_false, Bool.false_eq_true]) | (refine EvC.condT ?_ ?_; simp (config := { maxSteps := 2000000 }) (disch := first | omega | rfl) only [sA, Nat.reduceEqDiff, reduceCtorEq, if_true, if_false]; refine EvC_go ?_))
    exact leave_one rfl (by first | (simp only [sA, Nat.reduceEqDiff, reduceCtorEq, if_true, if_false]; rfl) | simp only []) ⟨by rw [eqT_f (fun h => k2 (by rw [h]))], hx2⟩
  by_cases k3 : t.num = t'.num
  rotate_left
  · repeat' (first | refine EvC.seq ?_ | refine EvC.scope ?_ | refine EvC.block ?_ | (refine EvC.skip ?_) | (refine EvC.exit ?_) | (refine EvC.ret ?_; try simp only [thenC_ret, inBlock_ret]) | (refine EvC.reg ?_; simp (config := { maxSteps := 2000000 }) (disch := first | omega | rfl) only [sA, Nat.reduceEqDiff, reduceCtorEq, if_true, if_false, fa26_0, ld3, fa26_1, ld9, fa26_2, ine_f k1, q1, q2, dBin_neqS, sbeq_t k2, sbeq_f k3, Bool.not_false, Bool.not_true, Bool.false_eq_true]) | (refine EvC.condT ?_ ?_; simp (config := { maxSteps := 2000000 }) (disch := first | omega | rfl) only [sA, Nat.reduceEqDiff, reduceCtorEq, if_true, if_false]; refine EvC_go ?_))
    exact leave_one rfl (by first | (simp only [sA, Nat.reduceEqDiff, reduceCtorEq, if_true, if_false]; rfl) | simp only []) ⟨by rw [eqT_f (fun h => k3 (by rw [h]))], hx2⟩
  by_cases k4 : t.bits = t'.bits
  rotate_left
  · repeat' (first | refine EvC.seq ?_ | refine EvC.scope ?_ | refine EvC.block ?_ | (refine EvC.skip ?_) | (refine EvC.exit ?_) | (refine EvC.ret ?_; try simp only [thenC_ret, inBlock_ret]) | (refine EvC.reg ?_; simp (config := { maxSteps := 2000000 }) (disch := first | omega | rfl) only [sA, Nat.reduceEqDiff, reduceCtorEq, if_true, if_false, fa26_0, ld3, fa26_1, ld9, fa26_2, fa26_3, ld23, ine_f k1, q1, q2, dBin_neqS, sbeq_t k2, sbeq_t k3, ine_t k4, Bool.not_true, Bool.false_eq_true]) | (refine EvC.condT ?_ ?_; simp (config := { maxSteps := 2000000 }) (disch := first | omega | rfl) only [sA, Nat.reduceEqDiff, reduceCtorEq, if_true, if_false]; refine EvC_go ?_))
    exact leave_one rfl (by first | (simp only [sA, Nat.reduceEqDiff, reduceCtorEq, if_true, if_false]; rfl) | simp only []) ⟨by rw [eqT_f (fun h => k4 (by rw [h]))], hx2⟩
  by_cases k5 : t.var = t'.var
  rotate_left
  · repeat' (first | refine EvC.seq ?_ | refine EvC.scope ?_ | refine EvC.block ?_ | (refine EvC.skip ?_) | (refine EvC.exit ?_) | (refine EvC.ret ?_; try simp only [thenC_ret, inBlock_ret]) | (refine EvC.reg ?_; simp (config := { maxSteps := 2000000 }) (disch := first | omega | rfl) only [sA, Nat.reduceEqDiff, reduceCtorEq, if_true, if_false, fa26_0, ld3, fa26_1, ld9, fa26_2, fa26_3, ld23, fa26_4, ine_f k1, q1, q2, dBin_neqS, sbeq_t k2, sbeq_t k3, ine_f k4, ine_t k5, Bool.not_true, Bool.false_eq_true]) | (refine EvC.condT ?_ ?_; simp (config := { maxSteps := 2000000 }) (disch := first | omega | rfl) only [sA, Nat.reduceEqDiff, reduceCtorEq, if_true, if_false]; refine EvC_go ?_))
    exact leave_one rfl (by first | (simp only [sA, Nat.reduceEqDiff, reduceCtorEq, if_true, if_false]; rfl) | simp only []) ⟨by rw [eqT_f (fun h => k5 (by rw [h]))], hx2⟩
  by_cases k6 : (t.args.length : Int) = t'.args.length
  rotate_left
  · repeat' (first | refine EvC.seq ?_ | refine EvC.scope ?_ | refine EvC.block ?_ | (refine EvC.skip ?_) | (refine EvC.exit ?_) | (refine EvC.ret ?_; try simp only [thenC_ret, inBlock_ret]) | (refine EvC.reg ?_; simp (config := { maxSteps := 2000000 }) (disch := first | omega | rfl) only [sA, Nat.reduceEqDiff, reduceCtorEq, if_true, if_false, fa26_0, ld3, fa26_1, ld9, fa26_2, fa26_3, ld23, fa26_4, fa26_5, ld24, ln24, ine_f k1, q1, q2, dBin_neqS, sbeq_t k2, sbeq_t k3, ine_f k4, ine_f k5, ine_t k6, Bool.not_true, Bool.false_eq_true]) | (refine EvC.condT ?_ ?_; simp (config := { maxSteps := 2000000 }) (disch := first | omega | rfl) only [sA, Nat.reduceEqDiff, reduceCtorEq, if_true, if_false]; refine EvC_go ?_))
    exact leave_one rfl (by first | (simp only [sA, Nat.reduceEqDiff, reduceCtorEq, if_true, if_false]; rfl) | simp only []) ⟨by rw [eqT_f (fun h => k6 (by rw [h]))], hx2⟩
  repeat' (first | refine EvC.seq ?_ | refine EvC.scope ?_ | refine EvC.block ?_ | (refine EvC.skip ?_; try simp only [thenC_normal]) | (refine EvC.exit ?_) | (refine EvC.ret ?_; try simp only [thenC_ret, inBlock_ret]) | (refine EvC.reg ?_; simp (config := { maxSteps := 2000000 }) (disch := first | omega | rfl) only [sA, Nat.reduceEqDiff, reduceCtorEq, if_true, if_false, fa26_0, ld3, fa26_1, ld9, fa26_2, fa26_3, ld23, fa26_4, fa26_5, ld24, ln24, ine_f k1, q1, q2, dBin_neqS, sbeq_t k2, sbeq_t k3, ine_f k4, ine_f k5, ine_f k6, Bool.not_true, Bool.false_eq_true]) | (refine EvC.condT ?_ ?_; simp (config := { maxSteps := 2000000 }) (disch := first | omega | rfl) only [sA, Nat.reduceEqDiff, reduceCtorEq, if_true, if_false]; refine EvC_go ?_) | (refine EvC.condF ?_ ?_; simp (config := { maxSteps := 2000000 }) (disch := first | omega | rfl) only [sA, Nat.reduceEqDiff, reduceCtorEq, if_true, if_false]; refine EvC_go ?_))
  have hlen : t.args.length = t'.args.length := by omega
  have hm := rl.max
  refine EvC.loop (fun k st => ∃ tm H' i, st = ⟨tm, [], H'⟩ ∧ k = t.args.length - i ∧ i ≤ t.args.length ∧ (∀ j, j < i → t.args[j]? = t'.args[j]?) ∧
      tm.get 2 = some (.pointer (some ⟨H.next, 0, none⟩)) ∧ tm.get 3 = some (.pointer (some ⟨H.next + 1, 0, none⟩)) ∧ tm.get 5 = some (.int .i64 (i : Nat)) ∧
      H'.get H.next = some (.row (six t a c) 26) ∧ H'.get (H.next + 1) = some (.row (six t' a' c') 26) ∧ HX H H') ?_ t.args.length _ ?_
  · rintro k st ⟨tm, H', i, rfl, rfl, hi, hc, t2, t3, t5, gp', gq', hx'⟩
    have q1 := row6 gp'
    have q2 := row6 gq'
    by_cases hlt : i < t.args.length
    · have hlt' : i < t'.args.length := by omega
      obtain ⟨b, o, a1, c1, rfl, hld, hr1⟩ := rl.el hlt
      obtain ⟨b', o', a2, c2, rfl, hld', hr2⟩ := rl'.el hlt'
      have hld1 := hx'.load hw hld
      have hld2 := hx'.load hw hld'
      repeat' (first | refine EvC.seq ?_ | refine EvC.scope ?_ | refine EvC.block ?_ | (refine EvC.skip ?_; try simp only [thenC_normal]) | (refine EvC.exit ?_) | (refine EvC.ret ?_; try simp only [thenC_ret, inBlock_ret]) | (refine EvC.reg ?_; simp (config := { maxSteps := 2000000 }) (disch := first | omega | rfl) only [sA, Nat.reduceEqDiff, if_true, if_false, fa26_5, ld24, ln24, t2, t5, q1, decl hlt]) | (refine EvC.drw [([(0, 0), (1, 0), (2, 0), (3, 0), (4, 0), (5, 0), (6, 0), (7, 0), (8, 0), (9, 0)], some 10), ([(11, 1)], none)] ?_ ?_; kernel_rfl; simp (config := { maxSteps := 2000000 }) (disch := first | omega | rfl) only [sD, sA, Nat.reduceEqDiff, Nat.reduceAdd, reduceCtorEq, if_true, if_false, fa26_5, ld24, ia24, ld26, cl20, t2, t3, t5, q1, q2, hld1, hld2, isAlloc, isRead, reduceCtorEq]) | (refine EvC.condT ?_ ?_; simp (config := { maxSteps := 2000000 }) (disch := first | omega | rfl) only [sA, Nat.reduceEqDiff, if_true, if_false]; refine EvC_go ?_))
      have hb := hx'.bump 12
      have hs := args_size (List.getElem?_eq_getElem hlt)
      refine (ih (t := t.args[i]) (t' := t'.args[i]) (by omega) (hr1.mono hb hw) (hr2.mono hb hw) hb.wf).mono ?_
      rintro v H4 ⟨rfl, hx4⟩
      have hx5 := hb.trans hx4
      by_cases he : t.args[i] = t'.args[i]
      · repeat' (first | refine EvC.seq ?_ | refine EvC.scope ?_ | refine EvC.block ?_ | (refine EvC.skip ?_; try simp only [sA]) | (refine EvC.exit ?_) | (refine EvC.ret ?_; try simp only [thenC_ret, inBlock_ret]) | (refine EvC.reg ?_; simp (config := { maxSteps := 2000000 }) (disch := first | omega | rfl) only [sA, Nat.reduceEqDiff, if_true, if_false, Bool.not_true, t5, wrap_i64]) | (refine SCK_go ?_; simp (config := { maxSteps := 2000000 }) (disch := first | omega | rfl) only [sD, sA, Nat.reduceEqDiff, if_true, if_false, eqT_t he, isAlloc, isRead]) | (refine EvC.condT ?_ ?_; simp (config := { maxSteps := 2000000 }) (disch := first | omega | rfl) only [sA, Nat.reduceEqDiff, if_true, if_false]; refine EvC_go ?_) | (refine EvC.condF ?_ ?_; simp (config := { maxSteps := 2000000 }) (disch := first | omega | rfl) only [sA, Nat.reduceEqDiff, if_true, if_false]; refine EvC_go ?_))
        refine ⟨t.args.length - (i + 1), by omega, _, _, i + 1, rfl, rfl, by omega, fun j hj => ?_, (by first | (simp only [Tr.get_put, Nat.reduceEqDiff, if_false, t2]; rfl) | simp only [Tr.get_put, Nat.reduceEqDiff, if_false, t2]), (by first | (simp only [Tr.get_put, Nat.reduceEqDiff, if_false, t3]; rfl) | simp only [Tr.get_put, Nat.reduceEqDiff, if_false, t3]), (by first | (simp only [sA, Nat.reduceEqDiff, if_true, if_false]; rfl) | simp only []), hx4.get hb.wf gp', hx4.get hb.wf gq', hx5⟩
        by_cases hji : j = i
        · subst hji; rw [List.getElem?_eq_getElem hlt, List.getElem?_eq_getElem hlt', he]
        · exact hc j (by omega)
      · repeat' (first | refine EvC.seq ?_ | refine EvC.scope ?_ | refine EvC.block ?_ | (refine EvC.skip ?_) | (refine EvC.exit ?_) | (refine EvC.ret ?_; try simp only [thenC_ret, inBlock_ret]) | (refine EvC.reg ?_; simp (config := { maxSteps := 2000000 }) (disch := first | omega | rfl) only [sA, Nat.reduceEqDiff, if_true, if_false, Bool.not_false]) | (refine SCK_go ?_; simp (config := { maxSteps := 2000000 }) (disch := first | omega | rfl) only [sD, sA, Nat.reduceEqDiff, if_true, if_false, eqT_f he, isAlloc, isRead]) | (refine EvC.condT ?_ ?_; simp (config := { maxSteps := 2000000 }) (disch := first | omega | rfl) only [sA, Nat.reduceEqDiff, if_true, if_false]; refine EvC_go ?_))
        refine leave_one rfl (by first | (simp only [sA, Nat.reduceEqDiff, if_true, if_false]; rfl) | simp only []) ⟨?_, hx5⟩
        rw [eqT_f]
        rintro rfl
        exact he rfl
    · repeat' (first | refine EvC.seq ?_ | refine EvC.scope ?_ | refine EvC.block ?_ | (refine EvC.skip ?_) | (refine EvC.exit ?_; try simp only [sA, if_true]) | (refine EvC.ret ?_; try simp only [thenC_ret, inBlock_ret]) | (refine EvC.reg ?_; simp (config := { maxSteps := 2000000 }) (disch := first | omega | rfl) only [sA, Nat.reduceEqDiff, if_true, if_false, fa26_5, ld24, ln24, t2, t5, q1, decn hlt]) | (refine EvC.condT ?_ ?_; simp (config := { maxSteps := 2000000 }) (disch := first | omega | rfl) only [sA, Nat.reduceEqDiff, if_true, if_false]; refine EvC_go ?_) | (refine EvC.condF ?_ ?_; simp (config := { maxSteps := 2000000 }) (disch := first | omega | rfl) only [sA, Nat.reduceEqDiff, if_true, if_false]; refine EvC_go ?_))
      refine leave_one rfl (by first | (simp only [sA, Nat.reduceEqDiff, if_true, if_false]; rfl) | simp only []) ⟨?_, hx'⟩
      rw [eqT_t]
      refine tm_ext k1 k2 k3 k4 k5 (List.ext_getElem? fun j => ?_)
      by_cases hj : j < i
      · exact hc j hj
      · rw [List.getElem?_eq_none (by omega), List.getElem?_eq_none (by omega)]
  · exact ⟨_, _, 0, rfl, rfl, by omega, by omega, (by first | (simp only [Tr.get_put, Nat.reduceEqDiff, reduceCtorEq, if_true, if_false]; rfl) | simp only [Tr.get_put, Nat.reduceEqDiff, reduceCtorEq, if_true, if_false]), (by first | (simp only [Tr.get_put, Nat.reduceEqDiff, reduceCtorEq, if_true, if_false]; rfl) | simp only [Tr.get_put, Nat.reduceEqDiff, reduceCtorEq, if_true, if_false]), (by first | (simp only [sA, Nat.reduceEqDiff, reduceCtorEq, if_true, if_false]; rfl) | simp only []), gp, gq, hx2⟩
theorem same_tells {t t' : Tm} {cs cs' : List Value} {H : Heap} (r : RepT H t cs) (r' : RepT H t' cs') (hw : H.wf) :
    EvF Tryd.prog okT 20 [.agg ⟨cs⟩, .agg ⟨cs'⟩] H fun v H' => v = .bool (eqT t t') ∧ HX H H' := same_ev (Nat.lt_succ_self _) r r' hw
end Go.Proofs.YtlllbkjiadcloaaDoor.hb
end

-- V4
section
/- Lists of trees: the same; told twice, the first written over. -/
namespace Go.Hb
open Go Go.RowKit
/-- a slice to which more may be appended; all else but S stays as it is -/
def ApV (S : Nat → Prop) (H0 H : Heap) (T : TypeId) (v : Value) (n : Nat) : Prop :=
  (n = 0 ∧ v = .slice none 0 0) ∨ ∃ b cells c, v = .slice (some ⟨b, 0, none⟩) n c ∧ H.get b = some (.row cells T) ∧ n * 6 ≤ cells.length ∧ (cells.take (n * 6)).all one = true ∧ (S b ∨ H0.next ≤ b)
theorem ApV.push {P : Program} {T t : TypeId} (hp : apOk P t T 6) {S : Nat → Prop} {H0 H : Heap} {v : Value} {n c1 : Nat} {ad : Addr} {cs : List Value} (h : ApV S H0 H T v n) (hk : HK S H0 H) (hl : H.load ad (1 * 6) = some cs) (hc : cs.all one = true) (hlc : cs.length = 6) (hm : n + 1 ≤ most) :
    ∃ H2 v2, dAp P #[t, t] v (.slice (some ad) 1 c1) H = some (.val v2 H2) ∧ ApV S H0 H2 T v2 (n + 1) ∧ HK S H0 H2 := by
  rcases h with ⟨rfl, rfl⟩ | ⟨b, cells, c, rfl, hg, hn, ho, hb⟩
  · refine ⟨_, _, dAp_new hp (by omega) hm hl hc, .inr ⟨H.next, cs, 1, rfl, gt_new_eq, by omega, ?_, .inr hk.next⟩, hk.new _⟩
    rw [List.take_of_length_le (by omega)]; exact hc
  · refine ⟨_, _, dAp_row hp (by omega) hm hl hc hg hn ho, .inr ⟨H.next, _, _, rfl, gt_new_eq, ?_, ?_, .inr hk.next⟩, (hk.put hb (hk.wf _ _ hg) none).new _⟩
    · simp; omega
    · rw [List.take_of_length_le (by simp; omega), List.all_append, ho, hc]; rfl
end Go.Hb
namespace Go.Proofs.YtlllbkjiadcloaaDoor.hb
open Go Go.RowKit Go.Hb
variable {ok : Ok}
set_option maxRecDepth 10000
attribute [local irreducible] LX LG EL STG SOP SGO SGD SAL SRD SEF SEG SLK SCK ES
-- @veq
noncomputable def eqL (l l' : List Tm) : Bool := @decide (l = l') (Classical.propDecidable _)
theorem eqL_t {t t' : List Tm} (h : t = t') : eqL t t' = true := by unfold eqL; exact @decide_eq_true _ (Classical.propDecidable _) h
theorem eqL_f {t t' : List Tm} (h : t ≠ t') : eqL t t' = false := by unfold eqL; exact @decide_eq_false _ (Classical.propDecidable _) h
theorem eqL_iff {t t' : List Tm} : eqL t t' = true ↔ t = t' := by unfold eqL; exact @decide_eq_true_iff _ (Classical.propDecidable _)

-- hornbeamref02.SameList
set_option maxHeartbeats 4000000 in
theorem sameList_ev {l l' : List Tm} {a a' : Option Addr} {c c' : Nat} {cells cells' : Nat → List Value} {H : Heap} (rl : RepL H l a c cells) (rl' : RepL H l' a' c' cells') (hw : H.wf) :
    EvF Tryd.prog okT 42 [.slice a l.length c, .slice a' l'.length c'] H fun v H' => v = .bool (eqL l l') ∧ HX H H' := by
  have hm := rl.max
  refine EvF.enter rfl Tryd.func42 (by decide) rfl ?_
  by_cases k6 : (l.length : Int) = l'.length
  rotate_left
  · repeat' (first | refine EvC.seq ?_ | refine EvC.scope ?_ | refine EvC.block ?_ | (refine EvC.skip ?_) | (refine EvC.exit ?_) | (refine EvC.ret ?_; try simp only [thenC_ret, inBlock_ret]) | (refine EvC.reg ?_; simp (config := { maxSteps := 2000000 }) (disch := first | omega | rfl) only [sA, initTm, Nat.reduceEqDiff, reduceCtorEq, if_true, if_false, ln24, ine_t k6]) | (refine EvC.condT ?_ ?_; simp (config := { maxSteps := 2000000 }) (disch := first | omega | rfl) only [sA, Nat.reduceEqDiff, reduceCtorEq, if_true, if_false]; refine EvC_go ?_))
    exact leave_one rfl (by first | (simp only [sA, Nat.reduceEqDiff, reduceCtorEq, if_true, if_false]; rfl) | simp only []) ⟨by rw [eqL_f (fun h => k6 (by rw [h]))], HX.refl hw⟩
  have hlen : l.length = l'.length := by omega
  repeat' (first | refine EvC.seq ?_ | refine EvC.scope ?_ | refine EvC.block ?_ | (refine EvC.skip ?_; try simp only [thenC_normal]) | (refine EvC.exit ?_) | (refine EvC.ret ?_; try simp only [thenC_ret, inBlock_ret]) | (refine EvC.reg ?_; simp (config := { maxSteps := 2000000 }) (disch := first | omega | rfl) only [sA, initTm, Nat.reduceEqDiff, reduceCtorEq, if_true, if_false, ln24, ine_f k6]) | (refine EvC.condT ?_ ?_; simp (config := { maxSteps := 2000000 }) (disch := first | omega | rfl) only [sA, Nat.reduceEqDiff, reduceCtorEq, if_true, if_false]; refine EvC_go ?_) | (refine EvC.condF ?_ ?_; simp (config := { maxSteps := 2000000 }) (disch := first | omega | rfl) only [sA, Nat.reduceEqDiff, reduceCtorEq, if_true, if_false]; refine EvC_go ?_))
  refine EvC.loop (fun k st => ∃ tm H' i, st = ⟨tm, [], H'⟩ ∧ k = l.length - i ∧ i ≤ l.length ∧ (∀ j : Nat, j < i → l[j]? = l'[j]?) ∧
      tm.get 0 = some (.slice a l.length c) ∧ tm.get 1 = some (.slice a' l'.length c') ∧ tm.get 5 = some (.int .i64 (i : Nat)) ∧ HX H H') ?_ l.length _ ?_
  · rintro k st ⟨tm, H', i, rfl, rfl, hi, hc, t0, t1, t5, hx'⟩
    by_cases hlt : i < l.length
    · have hlt' : i < l'.length := by omega
      obtain ⟨b, o, a1, c1, rfl, hld, hr1⟩ := rl.el hlt
      obtain ⟨b', o', a2, c2, rfl, hld', hr2⟩ := rl'.el hlt'
      have hld1 := hx'.load hw hld
      have hld2 := hx'.load hw hld'
      repeat' (first | refine EvC.seq ?_ | refine EvC.scope ?_ | refine EvC.block ?_ | (refine EvC.skip ?_; try simp only [thenC_normal]) | (refine EvC.exit ?_) | (refine EvC.ret ?_; try simp only [thenC_ret, inBlock_ret]) | (refine EvC.reg ?_; simp (config := { maxSteps := 2000000 }) (disch := first | omega | rfl) only [sA, Nat.reduceEqDiff, reduceCtorEq, if_true, if_false, ln24, t0, t5, decl hlt]) | (refine EvC.drw [([(0, 0), (1, 0), (2, 0), (3, 0), (4, 0), (5, 0), (6, 0), (7, 0)], some 8), ([(9, 1)], none)] ?_ ?_; kernel_rfl; simp (config := { maxSteps := 2000000 }) (disch := first | omega | rfl) only [sD, sA, Nat.reduceEqDiff, Nat.reduceAdd, reduceCtorEq, if_true, if_false, ia24, ld26, cl20, t0, t1, t5, hld1, hld2, isAlloc, isRead, reduceCtorEq]) | (refine EvC.condT ?_ ?_; simp (config := { maxSteps := 2000000 }) (disch := first | omega | rfl) only [sA, Nat.reduceEqDiff, if_true, if_false]; refine EvC_go ?_))
      have hb := hx'.bump 10
      refine (same_tells (hr1.mono hb hw) (hr2.mono hb hw) hb.wf).mono ?_
      rintro v H4 ⟨rfl, hx4⟩
      by_cases he : l[i] = l'[i]
      · repeat' (first | refine EvC.seq ?_ | refine EvC.scope ?_ | refine EvC.block ?_ | (refine EvC.skip ?_; try simp only [sA]) | (refine EvC.exit ?_) | (refine EvC.ret ?_; try simp only [thenC_ret, inBlock_ret]) | (refine EvC.reg ?_; simp (config := { maxSteps := 2000000 }) (disch := first | omega | rfl) only [sA, Nat.reduceEqDiff, if_true, if_false, Bool.not_true, t5, wrap_i64]) | (refine SCK_go ?_; simp (config := { maxSteps := 2000000 }) (disch := first | omega | rfl) only [sD, sA, Nat.reduceEqDiff, if_true, if_false, eqT_t he, isAlloc, isRead]) | (refine EvC.condT ?_ ?_; simp (config := { maxSteps := 2000000 }) (disch := first | omega | rfl) only [sA, Nat.reduceEqDiff, if_true, if_false]; refine EvC_go ?_) | (refine EvC.condF ?_ ?_; simp (config := { maxSteps := 2000000 }) (disch := first | omega | rfl) only [sA, Nat.reduceEqDiff, if_true, if_false]; refine EvC_go ?_))
        refine ⟨l.length - (i + 1), by omega, _, _, i + 1, rfl, rfl, by omega, fun j hj => ?_, (by first | (simp only [Tr.get_put, reduceCtorEq, if_false, t0]; rfl) | simp only [Tr.get_put, reduceCtorEq, if_false, t0]), (by first | (simp only [Tr.get_put, Nat.reduceEqDiff, if_false, t1]; rfl) | simp only [Tr.get_put, Nat.reduceEqDiff, if_false, t1]), (by first | (simp only [sA, Nat.reduceEqDiff, if_true, if_false]; rfl) | simp only []), hb.trans hx4⟩
        by_cases hji : j = i
        · subst hji; rw [List.getElem?_eq_getElem hlt, List.getElem?_eq_getElem hlt', he]
        · exact hc j (by omega)
      · repeat' (first | refine EvC.seq ?_ | refine EvC.scope ?_ | refine EvC.block ?_ | (refine EvC.skip ?_) | (refine EvC.exit ?_) | (refine EvC.ret ?_; try simp only [thenC_ret, inBlock_ret]) | (refine EvC.reg ?_; simp (config := { maxSteps := 2000000 }) (disch := first | omega | rfl) only [sA, Nat.reduceEqDiff, if_true, if_false, Bool.not_false]) | (refine SCK_go ?_; simp (config := { maxSteps := 2000000 }) (disch := first | omega | rfl) only [sD, sA, Nat.reduceEqDiff, if_true, if_false, eqT_f he, isAlloc, isRead]) | (refine EvC.condT ?_ ?_; simp (config := { maxSteps := 2000000 }) (disch := first | omega | rfl) only [sA, Nat.reduceEqDiff, if_true, if_false]; refine EvC_go ?_))
        refine leave_one rfl (by first | (simp only [sA, Nat.reduceEqDiff, if_true, if_false]; rfl) | simp only []) ⟨?_, hb.trans hx4⟩
        rw [eqL_f]
        rintro rfl
        exact he rfl
    · repeat' (first | refine EvC.seq ?_ | refine EvC.scope ?_ | refine EvC.block ?_ | (refine EvC.skip ?_) | (refine EvC.exit ?_; try simp only [sA, if_true]) | (refine EvC.ret ?_; try simp only [thenC_ret, inBlock_ret]) | (refine EvC.reg ?_; simp (config := { maxSteps := 2000000 }) (disch := first | omega | rfl) only [sA, Nat.reduceEqDiff, reduceCtorEq, if_true, if_false, ln24, t0, t5, decn hlt]) | (refine EvC.condT ?_ ?_; simp (config := { maxSteps := 2000000 }) (disch := first | omega | rfl) only [sA, Nat.reduceEqDiff, if_true, if_false]; refine EvC_go ?_) | (refine EvC.condF ?_ ?_; simp (config := { maxSteps := 2000000 }) (disch := first | omega | rfl) only [sA, Nat.reduceEqDiff, if_true, if_false]; refine EvC_go ?_))
      refine leave_one rfl (by first | (simp only [sA, Nat.reduceEqDiff, if_true, if_false]; rfl) | simp only []) ⟨?_, hx'⟩
      rw [eqL_t]
      refine List.ext_getElem? fun j => ?_
      by_cases hj : j < i
      · exact hc j hj
      · rw [List.getElem?_eq_none (by omega), List.getElem?_eq_none (by omega)]
  · exact ⟨_, _, 0, rfl, rfl, by omega, by omega, (by first | (simp only [Tr.get_put, reduceCtorEq, if_true, if_false]; rfl) | simp only [Tr.get_put, reduceCtorEq, if_true, if_false]), (by first | (simp only [Tr.get_put, Nat.reduceEqDiff, reduceCtorEq, if_true, if_false]; rfl) | simp only [Tr.get_put, Nat.reduceEqDiff, reduceCtorEq, if_true, if_false]), (by first | (simp only [sA, Nat.reduceEqDiff, reduceCtorEq, if_true, if_false]; rfl) | simp only []), HX.refl hw⟩

-- hornbeamlaw02.again
set_option maxHeartbeats 4000000 in
theorem again_ev {l l' l2 : List Tm} {a a' a2 : Option Addr} {c c' c2 : Nat} {S : Nat → Prop} {cells' cells2 : Nat → List Value} {H : Heap} (hf : FL H 26 S l a c) (rl' : RepL H l' a' c' cells') (rl2 : RepL H l2 a2 c2 cells2)
    (hS : ∀ n, S n → n < H.next) (hst : ∀ G, HK S H G → RepL G l' a' c' cells' ∧ RepL G l2 a2 c2 cells2) (hfew : ∀ t ∈ l, Few 1000000 t) (hlen : l.length ≤ 1000000) (hw : H.wf) :
    EvF Tryd.prog okT 26 [.slice a l.length c, .slice a' l'.length c', .slice a2 l2.length c2] H fun v H' => v = .bool (eqL l l2 && eqL l' l2) ∧ HK S H H' := by
  obtain ⟨cells0, rl⟩ := hf.rep
  have ean : apOk Tryd.prog 24 26 6 := ap24
  refine EvF.enter rfl Tryd.func26 (by decide) rfl ?_
  repeat' (first | refine EvC.seq ?_ | refine EvC.scope ?_ | refine EvC.block ?_ | (refine EvC.skip ?_) | (refine EvC.exit ?_) | (refine EvC.ret ?_; try simp only [thenC_ret, inBlock_ret]) | (refine EvC.reg ?_; simp (config := { maxSteps := 2000000 }) (disch := first | omega | rfl) only [sA, initTm, Nat.reduceEqDiff, Nat.reduceAdd, reduceCtorEq, if_true, if_false, cl42]))
  refine (sameList_ev rl rl2 hw).mono ?_
  rintro v H1 ⟨rfl, hx1⟩
  have hf1 := hf.keep hx1 hw
  try simp (config := { maxSteps := 2000000 }) (disch := first | omega | rfl) only []
  (repeat refine EvC.seq ?_); refine EvC.reg ?_; simp (config := { maxSteps := 2000000 }) (disch := first | omega | rfl) only [sA]
  refine EvC.meet (fun st => ∃ tm H' v, st = ⟨tm, [], H'⟩ ∧ tm.get 0 = some v ∧ tm.get 1 = some (.slice a' l'.length c') ∧ tm.get 2 = some (.slice a2 l2.length c2) ∧ tm.get 7 = some (.bool (eqL l l2)) ∧
    ApV S H H' 26 v l.length ∧ HK S H H') ?_ ?_
  · rcases hf1.inv with ⟨he, rfl, rfl⟩ | ⟨b, cells, Si, ai, ci, rfl, hlc, hcm, gb, hcl, hSb, hnb, hfs⟩
    · have he0 : l.length = 0 := by rw [he]; rfl
      have hd' : decide ((0 : Int) < (l.length : Int)) = false := decide_eq_false (by omega)
      refine EvC.block (EvC.loop1 ?_)
      repeat' (first | refine EvC.seq ?_ | refine EvC.scope ?_ | refine EvC.block ?_ | (refine EvC.skip ?_) | (refine EvC.exit ?_; try simp only [sA, reduceCtorEq, if_true]) | (refine EvC.ret ?_; try simp only [thenC_ret, inBlock_ret]) | (refine EvC.reg ?_; simp (config := { maxSteps := 2000000 }) (disch := first | omega | rfl) only [sA, Nat.reduceEqDiff, reduceCtorEq, if_true, if_false, ln24, hd']) | (refine EvC.condT ?_ ?_; simp (config := { maxSteps := 2000000 }) (disch := first | omega | rfl) only [sA, Nat.reduceEqDiff, reduceCtorEq, if_true, if_false]; refine EvC_go ?_) | (refine EvC.condF ?_ ?_; simp (config := { maxSteps := 2000000 }) (disch := first | omega | rfl) only [sA, Nat.reduceEqDiff, reduceCtorEq, if_true, if_false]; refine EvC_go ?_))
      exact ⟨_, _, _, rfl, (by first | (simp only [sA, reduceCtorEq, if_true, if_false]; rfl) | simp only []), (by first | (simp only [Tr.get_put, Nat.reduceEqDiff, reduceCtorEq, if_true, if_false]; rfl) | simp only [Tr.get_put, Nat.reduceEqDiff, reduceCtorEq, if_true, if_false]), (by first | (simp only [Tr.get_put, Nat.reduceEqDiff, reduceCtorEq, if_true, if_false]; rfl) | simp only [Tr.get_put, Nat.reduceEqDiff, reduceCtorEq, if_true, if_false]), (by first | (simp only [Tr.get_put, Nat.reduceEqDiff, reduceCtorEq, if_true, if_false]; rfl) | simp only [Tr.get_put, Nat.reduceEqDiff, reduceCtorEq, if_true, if_false]), .inl ⟨he0, by rw [he0]⟩, hx1.hk S⟩
    · refine EvC.block (EvC.loop (fun k st => ∃ tm H' i cells', st = ⟨tm, [], H'⟩ ∧ k = l.length - i ∧ i ≤ l.length ∧ tm.get 0 = some (.slice (some ⟨b, 0, none⟩) l.length c) ∧ tm.get 1 = some (.slice a' l'.length c') ∧ tm.get 2 = some (.slice a2 l2.length c2) ∧ tm.get 7 = some (.bool (eqL l l2)) ∧ tm.get 8 = some (.int .i64 (i : Nat)) ∧
        H'.get b = some (.row cells' 26) ∧ l.length * 6 ≤ cells'.length ∧ (∀ j, j < l.length → ((cells'.drop (j * 6)).take 6).all one = true) ∧
        (∀ j, i ≤ j → j < l.length → (cells'.drop (j * 6)).take 6 = (cells.drop (j * 6)).take 6) ∧ (∀ j n, i ≤ j → j < l.length → Si j n → H'.get n = H1.get n) ∧ HK S H H') ?_ l.length _ ?_)
      · rintro k st ⟨tm, H', i, cells', rfl, rfl, hi, t0, t1, t2, t7, t8, gb', hcl', hone, hsame, hkeep, hk'⟩
        by_cases hlt : i < l.length
        · have hu := List.getElem?_eq_getElem hlt
          have hld : H'.load ⟨b, i * 6, none⟩ 6 = some (six l[i] (ai i) (ci i)) := by
            unfold Heap.load Heap.cells
            simp only [gb', hsame i (Nat.le_refl _) hlt, hfs.el i _ hu]
            rfl
          have hle : i * 6 + 6 ≤ cells'.length := by have := mul6 hlt; omega
          have hmine : (⟨#[109, 105, 110, 101]⟩ : ByteArray).size ≤ maxLen := by simp [maxLen, ByteArray.size]
          repeat' (first | refine EvC.seq ?_ | refine EvC.scope ?_ | refine EvC.block ?_ | (refine EvC.skip ?_; try simp only [thenC_normal]) | (refine EvC.exit ?_) | (refine EvC.ret ?_; try simp only [thenC_ret, inBlock_ret]) | (refine EvC.reg ?_; simp (config := { maxSteps := 2000000 }) (disch := first | omega | rfl) only [sA, Nat.reduceEqDiff, reduceCtorEq, if_true, if_false, ln24, ia24, ld26, cl23, t0, t8, decl hlt, hld]) | (refine EvC.condT ?_ ?_; simp (config := { maxSteps := 2000000 }) (disch := first | omega | rfl) only [sA, Nat.reduceEqDiff, if_true, if_false]; refine EvC_go ?_))
          have hfi := (hfs.fl i _ hu).heap (H' := H') (fun n hn _ => hkeep i n (Nat.le_refl _) hlt hn) hx1.wf
          have hSn : ∀ n, S n → n < H'.next := fun n hn => Nat.lt_of_lt_of_le (hS n hn) hk'.next
          refine (marked_ev (Nat.lt_succ_self _) ⟨ai i, ci i, rfl, hfs.bd i _ hu, hfi⟩ (hfew _ (List.getElem_mem _)) (fun n hn => hSn n (hfs.sub i n hlt hn)) hk'.wf).mono ?_
          rintro v H5 hk5
          have gb5 := hk5.get hk'.wf gb' (fun hq => hnb i hlt hq)
          have hmx : l.length ≤ 9223372036854775807 := by omega
          repeat' (first | refine EvC.seq ?_ | refine EvC.scope ?_ | refine EvC.block ?_ | (refine EvC.skip ?_) | (refine EvC.exit ?_) | (refine EvC.ret ?_; try simp only [thenC_ret, inBlock_ret]) | (refine EvC.reg ?_; simp (config := { maxSteps := 2000000 }) (disch := first | omega | rfl) only [sA, Nat.reduceEqDiff, Nat.reduceAdd, Value.cells, one, reduceCtorEq, if_true, if_false, Nat.reduceLeDiff, layC, ia24, bd26, st26, t0, t8, gb5, hle, wrap_i64]))
          have hmk : (mark6 (-1) ByteArray.empty).length = 6 := rfl
          refine ⟨l.length - (i + 1), by omega, _, _, i + 1, Hb.splice cells' (i * 6) (mark6 (-1) ByteArray.empty), rfl, rfl, by omega, (by first | (simp only [Tr.get_put, reduceCtorEq, if_false, t0]; rfl) | simp only [Tr.get_put, reduceCtorEq, if_false, t0]), (by first | (simp only [Tr.get_put, Nat.reduceEqDiff, if_false, t1]; rfl) | simp only [Tr.get_put, Nat.reduceEqDiff, if_false, t1]), (by first | (simp only [Tr.get_put, Nat.reduceEqDiff, if_false, t2]; rfl) | simp only [Tr.get_put, Nat.reduceEqDiff, if_false, t2]), (by first | (simp only [Tr.get_put, Nat.reduceEqDiff, if_false, t7]; rfl) | simp only [Tr.get_put, Nat.reduceEqDiff, if_false, t7]), (by first | (simp only [sA, Nat.reduceEqDiff, if_true, if_false]; rfl) | simp only []), by rw [get_put, if_pos rfl], by rw [splice_len (by rw [hmk]; exact hle)]; exact hcl',
            fun j hj => ?_, fun j hij hj => ?_, fun j n hij hj hn => ?_, ?_⟩
          · by_cases hji : j = i
            · subst hji; rw [splice_same hle rfl]; rfl
            · rw [splice_other hle rfl (by rcases Nat.lt_or_gt_of_ne hji with h | h; exact .inl (mul6 h); exact .inr (mul6 h))]; exact hone j hj
          · rw [splice_other hle rfl (.inr (mul6 (by omega)))]; exact hsame j (by omega) hj
          · have hnb' : n ≠ b := fun e => hnb j hj (e ▸ hn)
            rw [get_put, if_neg hnb', hk5.keep n (hSn n (hfs.sub j n hj hn)) (fun hq => by have := hfs.one i j n hlt hj hq hn; omega)]; exact hkeep j n (by omega) hj hn
          · exact (hk'.trans (hk5.sub fun n _ hn => hfs.sub i n hlt hn)).put (.inl hSb) (hk5.wf _ _ gb5) _
        · repeat' (first | refine EvC.seq ?_ | refine EvC.scope ?_ | refine EvC.block ?_ | (refine EvC.skip ?_) | (refine EvC.exit ?_; try simp only [sA, reduceCtorEq, if_true]) | (refine EvC.ret ?_; try simp only [thenC_ret, inBlock_ret]) | (refine EvC.reg ?_; simp (config := { maxSteps := 2000000 }) (disch := first | omega | rfl) only [sA, Nat.reduceEqDiff, reduceCtorEq, if_true, if_false, ln24, t0, t8, decn hlt]) | (refine EvC.condT ?_ ?_; simp (config := { maxSteps := 2000000 }) (disch := first | omega | rfl) only [sA, Nat.reduceEqDiff, if_true, if_false]; refine EvC_go ?_) | (refine EvC.condF ?_ ?_; simp (config := { maxSteps := 2000000 }) (disch := first | omega | rfl) only [sA, Nat.reduceEqDiff, if_true, if_false]; refine EvC_go ?_))
          exact ⟨_, _, _, rfl, (by first | (simp only [Tr.get_put, reduceCtorEq, if_false, t0]; rfl) | simp only [Tr.get_put, reduceCtorEq, if_false, t0]), (by first | (simp only [Tr.get_put, Nat.reduceEqDiff, if_false, t1]; rfl) | simp only [Tr.get_put, Nat.reduceEqDiff, if_false, t1]), (by first | (simp only [Tr.get_put, Nat.reduceEqDiff, if_false, t2]; rfl) | simp only [Tr.get_put, Nat.reduceEqDiff, if_false, t2]), (by first | (simp only [Tr.get_put, Nat.reduceEqDiff, if_false, t7]; rfl) | simp only [Tr.get_put, Nat.reduceEqDiff, if_false, t7]), .inr ⟨b, cells', c, rfl, gb', hcl', ones_chunks _ hcl' hone, .inl hSb⟩, hk'⟩
      · exact ⟨_, _, 0, cells, rfl, rfl, by omega, (by first | (simp only [Tr.get_put, reduceCtorEq, if_true, if_false]; rfl) | simp only [Tr.get_put, reduceCtorEq, if_true, if_false]), (by first | (simp only [Tr.get_put, Nat.reduceEqDiff, reduceCtorEq, if_true, if_false]; rfl) | simp only [Tr.get_put, Nat.reduceEqDiff, reduceCtorEq, if_true, if_false]), (by first | (simp only [Tr.get_put, Nat.reduceEqDiff, reduceCtorEq, if_true, if_false]; rfl) | simp only [Tr.get_put, Nat.reduceEqDiff, reduceCtorEq, if_true, if_false]), (by first | (simp only [Tr.get_put, Nat.reduceEqDiff, reduceCtorEq, if_true, if_false]; rfl) | simp only [Tr.get_put, Nat.reduceEqDiff, reduceCtorEq, if_true, if_false]), (by first | (simp only [sA, Nat.reduceEqDiff, reduceCtorEq, if_true, if_false]; rfl) | simp only []), gb, hcl, fun j hj => by rw [hfs.el j _ (List.getElem?_eq_getElem hj)]; exact six_ones, fun _ _ _ => rfl, fun j n _ hj hn => rfl, hx1.hk S⟩
  · rintro st ⟨tm, H', v, rfl, t0, t1, t2, t7, hap, hk'⟩
    (repeat refine EvC.seq ?_); refine EvC.reg ?_; simp (config := { maxSteps := 2000000 }) (disch := first | omega | rfl) only [sA]
    refine EvC.meet (fun st => ∃ tm H', st = ⟨tm, [], H'⟩ ∧ tm.get 1 = some (.slice a' l'.length c') ∧ tm.get 2 = some (.slice a2 l2.length c2) ∧ tm.get 7 = some (.bool (eqL l l2)) ∧ HK S H H') ?_ ?_
    · refine EvC.block (EvC.loop (fun k st => ∃ tm H' i v, st = ⟨tm, [], H'⟩ ∧ k = 5 - i ∧ i ≤ 5 ∧ tm.get 0 = some v ∧ tm.get 1 = some (.slice a' l'.length c') ∧ tm.get 2 = some (.slice a2 l2.length c2) ∧ tm.get 7 = some (.bool (eqL l l2)) ∧ tm.get 9 = some (.int .i64 (i : Nat)) ∧
        ApV S H H' 26 v (l.length + i) ∧ HK S H H') ?_ 5 _ ?_)
      · rintro k st ⟨tm, H', i, v, rfl, rfl, hi, t0, t1, t2, t7, t9, hap, hk'⟩
        by_cases hlt : i < 5
        · have hd : decide ((i : Int) < 5) = true := decide_eq_true (by omega)
          repeat' (first | refine EvC.seq ?_ | refine EvC.scope ?_ | refine EvC.block ?_ | (refine EvC.skip ?_; try simp only [thenC_normal]) | (refine EvC.exit ?_) | (refine EvC.ret ?_; try simp only [thenC_ret, inBlock_ret]) | (refine EvC.reg ?_; simp (config := { maxSteps := 2000000 }) (disch := first | omega | rfl) only [sA, Nat.reduceEqDiff, Nat.reduceAdd, Value.cells, one, reduceCtorEq, if_true, if_false, Nat.reduceLeDiff, layC, bd26, bs24_1, t0, t9, hd]) | (refine EvC.condT ?_ ?_; simp (config := { maxSteps := 2000000 }) (disch := first | omega | rfl) only [sA, Nat.reduceEqDiff, if_true, if_false]; refine EvC_go ?_))
          obtain ⟨H6, e6, hx6, g6, hn6, hw6⟩ := new1 hk'.wf (.row (mark6 (-2) ByteArray.empty) 26)
          simp only [e6]
          have hap6 : ApV S H H6 26 v (l.length + i) := by
            rcases hap with h | ⟨b, cells, c, h1, h2, h3⟩
            · exact .inl h
            · exact .inr ⟨b, cells, c, h1, hx6.get hk'.wf h2, h3⟩
          obtain ⟨H7, v7, e7, hap7, hk7⟩ := ApV.push (c1 := 1) ean hap6 (hk'.trans (hx6.hk S)) (row6 g6).2.2.2.2.2.2 rfl rfl (by unfold most; omega)
          repeat' (first | refine EvC.seq ?_ | refine EvC.scope ?_ | refine EvC.block ?_ | (refine EvC.skip ?_) | (refine EvC.exit ?_) | (refine EvC.ret ?_; try simp only [thenC_ret, inBlock_ret]) | (refine EvC.reg ?_; simp (config := { maxSteps := 2000000 }) (disch := first | omega | rfl) only [sA, Nat.reduceEqDiff, reduceCtorEq, if_true, if_false, t9, wrap_i64]) | (refine LX_go ?_; simp (config := { maxSteps := 2000000 }) (disch := first | omega | rfl) only [sA, Nat.reduceEqDiff, if_true, if_false, e7]))
          exact ⟨5 - (i + 1), by omega, _, _, i + 1, v7, rfl, rfl, by omega, (by first | (simp only [Tr.get_put, reduceCtorEq, if_true, if_false]; rfl) | simp only [Tr.get_put, reduceCtorEq, if_true, if_false]), (by first | (simp only [Tr.get_put, Nat.reduceEqDiff, reduceCtorEq, if_false, t1]; rfl) | simp only [Tr.get_put, Nat.reduceEqDiff, reduceCtorEq, if_false, t1]), (by first | (simp only [Tr.get_put, Nat.reduceEqDiff, reduceCtorEq, if_false, t2]; rfl) | simp only [Tr.get_put, Nat.reduceEqDiff, reduceCtorEq, if_false, t2]), (by first | (simp only [Tr.get_put, Nat.reduceEqDiff, reduceCtorEq, if_false, t7]; rfl) | simp only [Tr.get_put, Nat.reduceEqDiff, reduceCtorEq, if_false, t7]), (by first | (simp only [sA, Nat.reduceEqDiff, reduceCtorEq, if_true, if_false]; rfl) | simp only []), by rw [← Nat.add_assoc]; exact hap7, hk7⟩
        · have hd : decide ((i : Int) < 5) = false := decide_eq_false (by omega)
          repeat' (first | refine EvC.seq ?_ | refine EvC.scope ?_ | refine EvC.block ?_ | (refine EvC.skip ?_) | (refine EvC.exit ?_; try simp only [sA, reduceCtorEq, if_true]) | (refine EvC.ret ?_; try simp only [thenC_ret, inBlock_ret]) | (refine EvC.reg ?_; simp (config := { maxSteps := 2000000 }) (disch := first | omega | rfl) only [sA, if_true, t9, hd]) | (refine EvC.condT ?_ ?_; simp (config := { maxSteps := 2000000 }) (disch := first | omega | rfl) only [sA, Nat.reduceEqDiff, if_true, if_false]; refine EvC_go ?_) | (refine EvC.condF ?_ ?_; simp (config := { maxSteps := 2000000 }) (disch := first | omega | rfl) only [sA, Nat.reduceEqDiff, if_true, if_false]; refine EvC_go ?_))
          exact ⟨_, _, rfl, (by first | (simp only [Tr.get_put, Nat.reduceEqDiff, if_false, t1]; rfl) | simp only [Tr.get_put, Nat.reduceEqDiff, if_false, t1]), (by first | (simp only [Tr.get_put, Nat.reduceEqDiff, if_false, t2]; rfl) | simp only [Tr.get_put, Nat.reduceEqDiff, if_false, t2]), (by first | (simp only [Tr.get_put, Nat.reduceEqDiff, if_false, t7]; rfl) | simp only [Tr.get_put, Nat.reduceEqDiff, if_false, t7]), hk'⟩
      · exact ⟨_, _, 0, v, rfl, rfl, by omega, (by first | (simp only [Tr.get_put, reduceCtorEq, if_false, t0]; rfl) | simp only [Tr.get_put, reduceCtorEq, if_false, t0]), (by first | (simp only [Tr.get_put, Nat.reduceEqDiff, if_false, t1]; rfl) | simp only [Tr.get_put, Nat.reduceEqDiff, if_false, t1]), (by first | (simp only [Tr.get_put, Nat.reduceEqDiff, if_false, t2]; rfl) | simp only [Tr.get_put, Nat.reduceEqDiff, if_false, t2]), (by first | (simp only [Tr.get_put, Nat.reduceEqDiff, if_false, t7]; rfl) | simp only [Tr.get_put, Nat.reduceEqDiff, if_false, t7]), (by first | (simp only [sA, if_true]; rfl) | simp only []), hap, hk'⟩
    · rintro st ⟨tm, H', rfl, t1, t2, t7, hk'⟩
      obtain ⟨r1, r2⟩ := hst H' hk'
      cases hb : eqL l l2
      · rw [hb] at t7
        repeat' (first | refine EvC.seq ?_ | refine EvC.scope ?_ | refine EvC.block ?_ | (refine EvC.skip ?_) | (refine EvC.exit ?_) | (refine EvC.ret ?_; try simp only [thenC_ret, inBlock_ret]) | (refine EvC.reg ?_; simp (config := { maxSteps := 2000000 }) (disch := first | omega | rfl) only [sA, Nat.reduceEqDiff, if_true, if_false, t7, Bool.false_eq_true]))
        exact leave_one rfl (by first | (simp only [sA, Nat.reduceEqDiff, if_true, if_false]; rfl) | simp only []) ⟨rfl, hk'⟩
      · rw [hb] at t7
        repeat' (first | refine EvC.seq ?_ | refine EvC.scope ?_ | refine EvC.block ?_ | (refine EvC.skip ?_) | (refine EvC.exit ?_) | (refine EvC.ret ?_; try simp only [thenC_ret, inBlock_ret]) | (refine EvC.reg ?_; simp (config := { maxSteps := 2000000 }) (disch := first | omega | rfl) only [sA, Nat.reduceEqDiff, if_true, if_false, cl42, t1, t2, t7]))
        refine (sameList_ev r1 r2 hk'.wf).mono ?_
        rintro v H9 ⟨rfl, hx9⟩
        repeat' (first | refine EvC.seq ?_ | refine EvC.scope ?_ | refine EvC.block ?_ | (refine EvC.skip ?_) | (refine EvC.exit ?_) | (refine EvC.ret ?_; try simp only [thenC_ret, inBlock_ret]))
        exact leave_one rfl (by first | (simp only [sA, Nat.reduceEqDiff, if_true, if_false]; rfl) | simp only []) ⟨by simp, hk'.trans (hx9.hk S)⟩
end Go.Proofs.YtlllbkjiadcloaaDoor.hb
end

-- V5
section
/- Ranges over functions: the loop and its rounds. -/
namespace Go.Hb
open Go Go.RowKit
section
variable {P : Program} {ok : Ok} {x : Ctx}
theorem call1_of {g : FuncId} (h : callable P g = true) : (dcall1 P g []).isNone = false := by
  unfold callable at h
  unfold dcall1
  split at h
  · rename_i fn hfn
    rw [hfn]
    simp only [h, if_true]; rfl
  · cases h
/-- A RANGE OVER A FUNCTION, whose body never leaves. -/
theorem EvC.rangeF {f : Operand} {params : Array Tmp} {assign body : Code} {g : FuncId} {first captured : Array Value} {tm : Tr Value} {ds : List Deferred} {H : Heap} {Q : Ex → St → Prop} (hr : x.round = none)
    (hf : ev tm f = .func (.func g) first captured) (hc : callable P g = true)
    (h : EvF P ok g (first.toList ++ [.func (.yield (H.next + 1)) #[] #[]] ++ captured.toList) ((H.new (some .dfr)).new (some (.loop .ready none x.fn tm params.toList assign body H.next)))
      fun _ H3 => H3.get (H.next + 1) = some (.loop .ready none x.fn tm params.toList assign body H.next) ∧
        Q .normal ⟨tm, { target := .collected H.next, args := #[] } :: ds, H3.put (H.next + 1) (some (.loop .exhausted none x.fn tm params.toList assign body H.next))⟩) :
    EvC P ok x (.rangeFunc f params assign body) ⟨tm, ds, H⟩ Q := by
  obtain ⟨N, ⟨en, H3⟩, h1, v, he, hg, hq⟩ := h
  simp only at he
  subst he
  refine ⟨N + 1, (.normal, ⟨tm, { target := .collected H.next, args := #[] } :: ds, H3.put (H.next + 1) (some (.loop .exhausted none x.fn tm params.toList assign body H.next))⟩), fun n hn => ?_, hq⟩
  obtain ⟨m, rfl⟩ : ∃ m, n = m + 1 := ⟨n - 1, by omega⟩
  have hcall := h1 m (by omega)
  show dcode P ok (m + 1) x (.rangeFunc f params assign body) ⟨tm, ds, H⟩ = _
  rw [dcode]
  simp only [hr, hf, call1_of hc, Bool.false_eq_true, if_false]
  have e1 : (H.new (some Blk.dfr)).next = H.next + 1 := rfl
  simp only [e1, hcall, hg]
theorem EvC.rangeG {f : Operand} {params : Array Tmp} {assign body : Code} {g : FuncId} {first captured : Array Value} {tm : Tr Value} {ds : List Deferred} {H : Heap} {Q : Ex → St → Prop} (hr : x.round = none)
    (hf : ev tm f = .func (.func g) first captured) (hc : callable P g = true)
    (h : ∀ R, R = Blk.loop .ready none x.fn tm params.toList assign body H.next → EvF P ok g (first.toList ++ [.func (.yield (H.next + 1)) #[] #[]] ++ captured.toList) ((H.new (some .dfr)).new (some R))
      fun _ H3 => H3.get (H.next + 1) = some R ∧ ∀ B, Q .normal ⟨tm, { target := .collected H.next, args := #[] } :: ds, H3.put (H.next + 1) B⟩) :
    EvC P ok x (.rangeFunc f params assign body) ⟨tm, ds, H⟩ Q := EvC.rangeF hr hf hc ((h _ rfl).mono fun _ _ hq => ⟨hq.1, hq.2 _⟩)
theorem leave_mark {fn : Func} {tm : Tr Value} {ds : List Deferred} {l : Nat} {args : Array Value} {H : Heap} {K : Value → Heap → Prop} (hg : H.get l = some .dfr) (h : Ex.leave P ok fn K .ret ⟨tm, ds, H.put l none⟩) :
    Ex.leave P ok fn K .ret ⟨tm, ⟨.collected l, args⟩ :: ds, H⟩ := EvV.mark hg h
/-- A ROUND of it. -/
theorem EvR.go {l : Nat} {args : List Value} {H : Heap} {K : Value → Heap → Prop} {fn : FuncId} {tm : Tr Value} {ps : List Tmp} {aa bo : Code} {dd : Nat} (hg : H.get l = some (.loop .ready none fn tm ps aa bo dd)) (hl : args.length = ps.length)
    (h : EvC P ok ⟨fn, some l⟩ aa ⟨(ps.zip args).foldl (fun t p => t.put p.1 (some p.2)) tm, [], H⟩ fun e st1 => e = .normal ∧ st1.H.get l = some (.loop .ready none fn tm ps aa bo dd) ∧
      EvC P ok ⟨fn, some l⟩ bo ⟨st1.tm, st1.ds, st1.H.put l (some (.loop .busy none fn tm ps aa bo dd))⟩ fun e st2 => e = .normal ∧ st2.H.get l = some (.loop .busy none fn tm ps aa bo dd) ∧
        K (.bool true) (st2.H.put l (some (.loop .ready none fn tm ps aa bo dd)))) : EvR P ok l args H K := by
  obtain ⟨N, ⟨e, st1⟩, h1, he, hg1, N2, ⟨e2, st2⟩, h2, he2, hg2, hk⟩ := h
  simp only at he he2
  subst he he2
  refine ⟨max N N2 + 1, (.bool true, st2.H.put l (some (.loop .ready none fn tm ps aa bo dd))), fun n hn => ?_, hk⟩
  obtain ⟨m, rfl⟩ : ∃ m, n = m + 1 := ⟨n - 1, by omega⟩
  have c1 := h1 m (by omega)
  have c2 := h2 m (by omega)
  have hb : Nat.beq args.length ps.length = true := by rw [Nat.beq_eq]; exact hl
  simp only at hg1 hg2 c2
  show dround P ok (m + 1) l args H = _
  rw [dround]
  simp only [hg, hb, if_true, c1, hg1, c2, dendRound, hg2]
theorem EvR.mono {l : Nat} {args : List Value} {H : Heap} {K L : Value → Heap → Prop} (h : EvR P ok l args H K) (k : ∀ v H', K v H' → L v H') : EvR P ok l args H L := Upon.mono h fun _ hq => k _ _ hq
end
end Go.Hb
end

-- V6
section
/- Lists together: the program's. -/
namespace Go.Proofs.YtlllbkjiadcloaaDoor.hb
open Go Go.RowKit Go.Hb
variable {ok : Ok}
set_option maxRecDepth 10000
attribute [local irreducible] LX LG EL STG SOP SGO SGD SAL SRD SEF SEG SLK SCK ES
-- @veq
-- api.Errno]
set_option maxHeartbeats 2000000 in
theorem orE_ev {x y : Int} {c p : Nat} {H : Heap} (h0 : H.load ⟨p, 0, none⟩ 1 = some [.int .i64 x]) (h1 : H.load ⟨p, 1, none⟩ 1 = some [.int .i64 y]) :
    EvF Tryd.prog okT 60 [.slice (some ⟨p, 0, none⟩) 2 c] H fun v H' => v = .int .i64 (orZ x y) ∧ H' = H := by
  refine EvF.enter rfl Tryd.func60 (by decide) rfl ?_
  repeat' (first | refine EvC.seq ?_ | refine EvC.scope ?_ | refine EvC.block ?_ | (refine EvC.skip ?_) | (refine EvC.exit ?_) | (refine EvC.ret ?_; try simp only [thenC_ret, inBlock_ret]) | (refine EvC.reg ?_; simp (config := { maxSteps := 2000000 }) (disch := first | omega | rfl) only [sA, initTm, Nat.reduceEqDiff, reduceCtorEq, if_true, if_false, ln109]))
  refine EvC.loop (fun k st => ∃ tm i, st = ⟨tm, [], H⟩ ∧ k = 2 - i ∧ i ≤ 2 ∧ (0 < i → x = 0) ∧ (1 < i → y = 0) ∧ tm.get 3 = some (.int .i64 0) ∧ tm.get 6 = some (.slice (some ⟨p, 0, none⟩) 2 c) ∧ tm.get 7 = some (.int .i64 (2 : Nat)) ∧ tm.get 8 = some (.int .i64 (i : Nat))) ?_ 2 _ ?_
  · rintro k st ⟨tm, i, rfl, rfl, hi, hx, hy, g3, g6, g7, g8⟩
    by_cases h2 : i = 2
    · subst h2
      repeat' (first | refine EvC.seq ?_ | refine EvC.scope ?_ | refine EvC.block ?_ | (refine EvC.skip ?_) | (refine EvC.exit ?_; try simp only [sA, if_true]) | (refine EvC.ret ?_; try simp only [thenC_ret, inBlock_ret]) | (refine EvC.reg ?_; simp (config := { maxSteps := 2000000 }) (disch := first | omega | rfl) only [sA, Nat.reduceEqDiff, if_true, if_false, g3, g7, g8, decide_eq_false]) | (refine EvC.condT ?_ ?_; simp (config := { maxSteps := 2000000 }) (disch := first | omega | rfl) only [sA, if_true]; refine EvC_go ?_) | (refine EvC.condF ?_ ?_; simp (config := { maxSteps := 2000000 }) (disch := first | omega | rfl) only [sA, if_true]; refine EvC_go ?_))
      exact leave_one rfl (by first | (simp only [sA, Nat.reduceEqDiff, if_true, if_false]; rfl) | simp only []) ⟨by simp [orZ, hx, hy], rfl⟩
    · have hl : ∃ z, H.load ⟨p, i, none⟩ 1 = some [.int .i64 z] ∧ z = if i = 0 then x else y := by
        by_cases h0' : i = 0
        · subst h0'; exact ⟨x, h0, rfl⟩
        · have : i = 1 := by omega
          subst this; exact ⟨y, h1, rfl⟩
      obtain ⟨z, hl, hz⟩ := hl
      by_cases hz0 : z = 0
      · repeat' (first | refine EvC.seq ?_ | refine EvC.scope ?_ | refine EvC.block ?_ | (refine EvC.skip ?_; try simp only [sA]) | (refine EvC.exit ?_) | (refine EvC.ret ?_; try simp only [thenC_ret, inBlock_ret]) | (refine EvC.reg ?_; simp (config := { maxSteps := 2000000 }) (disch := first | omega | rfl) only [sA, Nat.reduceEqDiff, if_true, if_false, ia109, ld28, g3, g6, g7, g8, hl, ine_f hz0, decide_eq_true, wrap_i64]) | (refine EvC.condT ?_ ?_; simp (config := { maxSteps := 2000000 }) (disch := first | omega | rfl) only [sA, Nat.reduceEqDiff, if_true, if_false]; refine EvC_go ?_) | (refine EvC.condF ?_ ?_; simp (config := { maxSteps := 2000000 }) (disch := first | omega | rfl) only [sA, Nat.reduceEqDiff, if_true, if_false]; refine EvC_go ?_))
        exact ⟨2 - (i + 1), by omega, _, i + 1, rfl, rfl, by omega, fun _ => by
          by_cases h0' : i = 0
          · rw [hz, if_pos h0'] at hz0; exact hz0
          · exact hx (by omega), fun h => by
          rw [hz, if_neg (by omega)] at hz0; exact hz0, (by first | (simp only [Tr.get_put, Nat.reduceEqDiff, if_false, g3]; rfl) | simp only [Tr.get_put, Nat.reduceEqDiff, if_false, g3]), (by first | (simp only [Tr.get_put, Nat.reduceEqDiff, if_false, g6]; rfl) | simp only [Tr.get_put, Nat.reduceEqDiff, if_false, g6]), (by first | (simp only [Tr.get_put, Nat.reduceEqDiff, if_false, g7]; rfl) | simp only [Tr.get_put, Nat.reduceEqDiff, if_false, g7]), (by first | (simp only [sA, Nat.reduceEqDiff, if_true, if_false]; rfl) | simp only [])⟩
      · repeat' (first | refine EvC.seq ?_ | refine EvC.scope ?_ | refine EvC.block ?_ | (refine EvC.skip ?_; try simp only [thenC_normal]) | (refine EvC.exit ?_) | (refine EvC.ret ?_; try simp only [thenC_ret, inBlock_ret]) | (refine EvC.reg ?_; simp (config := { maxSteps := 2000000 }) (disch := first | omega | rfl) only [sA, Nat.reduceEqDiff, if_true, if_false, ia109, ld28, g3, g6, g7, g8, hl, ine_t hz0, decide_eq_true]) | (refine EvC.condT ?_ ?_; simp (config := { maxSteps := 2000000 }) (disch := first | omega | rfl) only [sA, Nat.reduceEqDiff, if_true, if_false]; refine EvC_go ?_))
        refine leave_one rfl (by first | (simp only [sA, Nat.reduceEqDiff, if_true, if_false]; rfl) | simp only []) ⟨?_, rfl⟩
        by_cases h0' : i = 0
        · rw [if_pos h0'] at hz; subst hz; simp [orZ, hz0]
        · rw [if_neg h0'] at hz; subst hz; simp [orZ, hx (by omega)]
  · exact ⟨_, 0, rfl, rfl, by omega, by omega, by omega, (by first | (simp only [Tr.get_put, Nat.reduceEqDiff, reduceCtorEq, if_true, if_false]; rfl) | simp only [Tr.get_put, Nat.reduceEqDiff, reduceCtorEq, if_true, if_false]), (by first | (simp only [Tr.get_put, Nat.reduceEqDiff, reduceCtorEq, if_true, if_false]; rfl) | simp only [Tr.get_put, Nat.reduceEqDiff, reduceCtorEq, if_true, if_false]), (by first | (simp only [Tr.get_put, Nat.reduceEqDiff, reduceCtorEq, if_true, if_false]; rfl) | simp only [Tr.get_put, Nat.reduceEqDiff, reduceCtorEq, if_true, if_false]), (by first | (simp only [sA, Nat.reduceEqDiff, reduceCtorEq, if_true, if_false]; rfl) | simp only [])⟩

-- api.Term]$1
set_option maxHeartbeats 2000000 in
theorem backward_ev {lst : List Tm} {a : Option Addr} {c p l : Nat} {cells : Nat → List Value} {I : Nat → Heap → Prop} {H : Heap} (h1 : ∀ i H, I i H → H.get p = some (.row [.slice a lst.length c] 24) ∧ RepL H lst a c cells)
    (h2 : ∀ i H, i < lst.length → I (i + 1) H → EvR Tryd.prog okT l [.int .i64 (i : Nat), .agg ⟨cells i⟩] H fun v H' => v = .bool true ∧ I i H') (h : I lst.length H) :
    EvF Tryd.prog okT 92 [.func (.yield l) #[] #[], .pointer (some ⟨p, 0, none⟩)] H fun _ H' => I 0 H' := by
  refine EvF.enter rfl Tryd.func92 (by decide) rfl ?_
  obtain ⟨gp, rl⟩ := h1 _ _ h
  have lp : H.load ⟨p, 0, none⟩ 1 = some [.slice a lst.length c] := by unfold Heap.load Heap.cells; simp only [gp]; rfl
  have hm := rl.max
  (repeat refine EvC.seq ?_); refine EvC.reg ?_; simp (config := { maxSteps := 2000000 }) (disch := first | omega | rfl) only [sA, initTm, Nat.reduceEqDiff, reduceCtorEq, if_true, if_false, ld24, ln24, lp, wrap_i64]
  refine EvC.block (EvC.loop (fun k st => ∃ tm H' , st = ⟨tm, [], H'⟩ ∧ k ≤ lst.length ∧ tm.get 0 = some (.func (.yield l) #[] #[]) ∧ tm.get 1 = some (.pointer (some ⟨p, 0, none⟩)) ∧ tm.get 3 = some (.int .i64 ((k : Nat) - 1 : Int)) ∧ I k H') ?_ lst.length _ ?_)
  · rintro k st ⟨tm, H', rfl, hk, t0, t1, t3, hI⟩
    cases k with
    | zero =>
      have hd : decide ((((0 : Nat) : Int) - 1) ≥ 0) = false := by decide
      repeat' (first | refine EvC.seq ?_ | refine EvC.scope ?_ | refine EvC.block ?_ | (refine EvC.skip ?_) | (refine EvC.exit ?_; try simp only [sA, if_true]) | (refine EvC.ret ?_; try simp only [thenC_ret, inBlock_ret]) | (refine EvC.reg ?_; simp (config := { maxSteps := 2000000 }) (disch := first | omega | rfl) only [sA, if_true, t3, hd]) | (refine EvC.condT ?_ ?_; simp (config := { maxSteps := 2000000 }) (disch := first | omega | rfl) only [sA, Nat.reduceEqDiff, if_true, if_false]; refine EvC_go ?_) | (refine EvC.condF ?_ ?_; simp (config := { maxSteps := 2000000 }) (disch := first | omega | rfl) only [sA, Nat.reduceEqDiff, if_true, if_false]; refine EvC_go ?_))
      exact leave_zero' rfl hI
    | succ k =>
      have e : (((k + 1 : Nat) : Int) - 1) = (k : Nat) := by omega
      rw [e] at t3
      have hd : decide (((k : Nat) : Int) ≥ 0) = true := decide_eq_true (by omega)
      obtain ⟨gp', rl'⟩ := h1 _ _ hI
      have lp' : H'.load ⟨p, 0, none⟩ 1 = some [.slice a lst.length c] := by unfold Heap.load Heap.cells; simp only [gp']; rfl
      obtain ⟨b, o, rfl, hl, -⟩ := rl'.at (List.getElem?_eq_getElem (show k < lst.length by omega))
      repeat' (first | refine EvC.seq ?_ | refine EvC.scope ?_ | refine EvC.block ?_ | (refine EvC.skip ?_; try simp only [thenC_normal]) | (refine EvC.exit ?_) | (refine EvC.ret ?_; try simp only [thenC_ret, inBlock_ret]) | (refine EvC.reg ?_; simp (config := { maxSteps := 2000000 }) (disch := first | omega | rfl) only [sA, Nat.reduceEqDiff, reduceCtorEq, if_true, if_false, ld24, ia24, ld26, t0, t1, t3, hd, lp', hl, dop_callT, dCallV_yield]) | (refine EvC.condT ?_ ?_; simp (config := { maxSteps := 2000000 }) (disch := first | omega | rfl) only [sA, Nat.reduceEqDiff, if_true, if_false]; refine EvC_go ?_))
      refine (h2 k H' (by omega) hI).mono ?_
      rintro v H2 ⟨rfl, hI2⟩
      repeat' (first | refine EvC.seq ?_ | refine EvC.scope ?_ | refine EvC.block ?_ | (refine EvC.skip ?_; try simp only [sA]) | (refine EvC.exit ?_) | (refine EvC.ret ?_; try simp only [thenC_ret, inBlock_ret]) | (refine EvC.reg ?_; simp (config := { maxSteps := 2000000 }) (disch := first | omega | rfl) only [sA, Nat.reduceEqDiff, if_true, if_false, t3, wrap_i64]) | (refine LX_go ?_; simp (config := { maxSteps := 2000000 }) (disch := first | omega | rfl) only [sA, Bool.not_true]) | (refine EvC.condT ?_ ?_; simp (config := { maxSteps := 2000000 }) (disch := first | omega | rfl) only [sA, Nat.reduceEqDiff, if_true, if_false]; refine EvC_go ?_) | (refine EvC.condF ?_ ?_; simp (config := { maxSteps := 2000000 }) (disch := first | omega | rfl) only [sA, Nat.reduceEqDiff, if_true, if_false]; refine EvC_go ?_))
      exact ⟨k, by omega, _, _, rfl, by omega, (by first | (simp only [Tr.get_put, reduceCtorEq, if_false, t0]; rfl) | simp only [Tr.get_put, reduceCtorEq, if_false, t0]), (by first | (simp only [Tr.get_put, Nat.reduceEqDiff, if_false, t1]; rfl) | simp only [Tr.get_put, Nat.reduceEqDiff, if_false, t1]), (by first | (simp only [Tr.get_put, Nat.reduceEqDiff, if_true, if_false]; rfl) | simp only [Tr.get_put, Nat.reduceEqDiff, if_true, if_false]), hI2⟩
  · exact ⟨_, _, rfl, Nat.le_refl _, (by first | (simp only [Tr.get_put, reduceCtorEq, if_true, if_false]; rfl) | simp only [Tr.get_put, reduceCtorEq, if_true, if_false]), (by first | (simp only [Tr.get_put, Nat.reduceEqDiff, reduceCtorEq, if_true, if_false]; rfl) | simp only [Tr.get_put, Nat.reduceEqDiff, reduceCtorEq, if_true, if_false]), (by first | (simp only [Tr.get_put, Nat.reduceEqDiff, reduceCtorEq, if_true, if_false]; rfl) | simp only [Tr.get_put, Nat.reduceEqDiff, reduceCtorEq, if_true, if_false]), h⟩
end Go.Proofs.YtlllbkjiadcloaaDoor.hb
end

-- Z13
section
/- Lists of terms that are checked; two terms compared. -/
namespace Go.Proofs.YtlllbkjiadcloaaDoor.hb
open Go Go.RowKit Go.Hb
variable {ok : Ok}
set_option maxRecDepth 10000
attribute [local irreducible] LX LG EL STG SOP SGO SGD SAL SRD SEF SEG SLK SCK ES
-- @veq
/-- what is wrong with the first that is -/
def chkL : List Tm → Int
  | [] => 0
  | t :: l => if checkS t = 0 then chkL l else checkS t
theorem chkL_drop {l : List Tm} {i : Nat} (h : i < l.length) : chkL (l.drop i) = if checkS l[i] = 0 then chkL (l.drop (i + 1)) else checkS l[i] := by
  rw [List.drop_eq_getElem_cons h, chkL]
theorem chkL_zero : ∀ {l : List Tm}, chkL l = 0 → ∀ t ∈ l, checkS t = 0
  | [], _, t, h => by simp at h
  | u :: l, h, t, ht => by
    rw [chkL] at h
    split at h
    · rename_i h0
      rcases List.mem_cons.1 ht with rfl | ht
      · exact h0
      · exact chkL_zero h t ht
    · rename_i h0; exact absurd h h0

-- term.checks
theorem checks_ev {l : List Tm} {a : Option Addr} {c : Nat} {cells : Nat → List Value} {H : Heap} (rl : RepL H l a c cells) (hw : H.wf) :
    EvF Tryd.prog okT 52 [.slice a l.length c] H fun v H' => v = .int .i64 (chkL l) ∧ HX H H' := by
  have hm := rl.max
  refine EvF.enter rfl Tryd.func52 (by decide) rfl ?_
  repeat' (first | refine EvC.seq ?_ | refine EvC.scope ?_ | refine EvC.block ?_ | (refine EvC.skip ?_) | (refine EvC.exit ?_) | (refine EvC.ret ?_; try simp only [thenC_ret, inBlock_ret]) | (refine EvC.reg ?_; simp (config := { maxSteps := 2000000 }) (disch := first | omega | rfl) only [sA, initTm, Nat.reduceEqDiff, reduceCtorEq, if_true, if_false, ln24]))
  refine EvC.loop (fun k st => ∃ tm H' i, st = ⟨tm, [], H'⟩ ∧ k = l.length - i ∧ i ≤ l.length ∧ chkL (l.drop i) = chkL l ∧ tm.get 6 = some (.slice a l.length c) ∧ tm.get 7 = some (.int .i64 l.length) ∧ tm.get 8 = some (.int .i64 (i : Nat)) ∧ HX H H') ?_ l.length _ ?_
  · rintro k st ⟨tm, H', i, rfl, rfl, hi, hc, g6, g7, g8, hx⟩
    by_cases hlt : i < l.length
    · obtain ⟨b, o, a1, c1, rfl, hld, hr⟩ := rl.el hlt
      have hld1 := hx.load hw hld
      repeat' (first | refine EvC.seq ?_ | refine EvC.scope ?_ | refine EvC.block ?_ | (refine EvC.skip ?_; try simp only [thenC_normal]) | (refine EvC.exit ?_) | (refine EvC.ret ?_; try simp only [thenC_ret, inBlock_ret]) | (refine EvC.reg ?_; simp (config := { maxSteps := 2000000 }) (disch := first | omega | rfl) only [sA, dAlloc, Nat.reduceEqDiff, Nat.reduceAdd, one, if_true, if_false, cutC, ia24, ld26, zr26, st26, cl15, g6, g7, g8, decl hlt, hld1]) | (refine EvC.condT ?_ ?_; simp (config := { maxSteps := 2000000 }) (disch := first | omega | rfl) only [sA, if_true]; refine EvC_go ?_))
      have hx2 := (hx.new (some (.row [.int .i64 0, .string ByteArray.empty, .string ByteArray.empty, .int .u64 0, .int .i64 0, .slice none 0 0] 26))).put (i := H'.next) hx.next (Nat.lt_succ_self _) (some (.row (six l[i] a1 c1) 26))
      refine (check_tells _ _ _ (hr.mono hx2 hw) hx2.wf).mono ?_
      rintro v H3 ⟨rfl, hx3⟩
      by_cases h0 : checkS l[i] = 0
      · repeat' (first | refine EvC.seq ?_ | refine EvC.scope ?_ | refine EvC.block ?_ | (refine EvC.skip ?_; try simp only [sA]) | (refine EvC.exit ?_) | (refine EvC.ret ?_; try simp only [thenC_ret, inBlock_ret]) | (refine EvC.reg ?_; simp (config := { maxSteps := 2000000 }) (disch := first | omega | rfl) only [sA, Nat.reduceEqDiff, if_true, if_false, g8, ine_f h0, wrap_i64]) | (refine EvC.condT ?_ ?_; simp (config := { maxSteps := 2000000 }) (disch := first | omega | rfl) only [sA, Nat.reduceEqDiff, if_true, if_false]; refine EvC_go ?_) | (refine EvC.condF ?_ ?_; simp (config := { maxSteps := 2000000 }) (disch := first | omega | rfl) only [sA, Nat.reduceEqDiff, if_true, if_false]; refine EvC_go ?_))
        exact ⟨l.length - (i + 1), by omega, _, _, i + 1, rfl, rfl, by omega, by rw [← hc, chkL_drop hlt, if_pos h0], (by first | (simp only [Tr.get_put, Nat.reduceEqDiff, if_false, g6]; rfl) | simp only [Tr.get_put, Nat.reduceEqDiff, if_false, g6]), (by first | (simp only [Tr.get_put, Nat.reduceEqDiff, if_false, g7]; rfl) | simp only [Tr.get_put, Nat.reduceEqDiff, if_false, g7]), (by first | (simp only [sA, Nat.reduceEqDiff, if_true, if_false]; rfl) | simp only []), hx2.trans hx3⟩
      · repeat' (first | refine EvC.seq ?_ | refine EvC.scope ?_ | refine EvC.block ?_ | (refine EvC.skip ?_) | (refine EvC.exit ?_) | (refine EvC.ret ?_; try simp only [thenC_ret, inBlock_ret]) | (refine EvC.reg ?_; simp (config := { maxSteps := 2000000 }) (disch := first | omega | rfl) only [sA, Nat.reduceEqDiff, if_true, if_false, ine_t h0]) | (refine EvC.condT ?_ ?_; simp (config := { maxSteps := 2000000 }) (disch := first | omega | rfl) only [sA, Nat.reduceEqDiff, if_true, if_false]; refine EvC_go ?_))
        exact leave_one rfl (by first | (simp only [sA, Nat.reduceEqDiff, if_true, if_false]; rfl) | simp only []) ⟨by rw [← hc, chkL_drop hlt, if_neg h0], hx2.trans hx3⟩
    · repeat' (first | refine EvC.seq ?_ | refine EvC.scope ?_ | refine EvC.block ?_ | (refine EvC.skip ?_) | (refine EvC.exit ?_; try simp only [sA, if_true]) | (refine EvC.ret ?_; try simp only [thenC_ret, inBlock_ret]) | (refine EvC.reg ?_; simp (config := { maxSteps := 2000000 }) (disch := first | omega | rfl) only [sA, g7, g8, decn hlt]) | (refine EvC.condT ?_ ?_; simp (config := { maxSteps := 2000000 }) (disch := first | omega | rfl) only [sA, if_true]; refine EvC_go ?_) | (refine EvC.condF ?_ ?_; simp (config := { maxSteps := 2000000 }) (disch := first | omega | rfl) only [sA, if_true]; refine EvC_go ?_))
      exact leave_one rfl (by first | (simp only [sA, Nat.reduceEqDiff, if_true, if_false]; rfl) | simp only []) ⟨by rw [← hc, List.drop_of_length_le (by omega), chkL], hx⟩
  · exact ⟨_, _, 0, rfl, rfl, by omega, rfl, (by first | (simp only [Tr.get_put, Nat.reduceEqDiff, reduceCtorEq, if_true, if_false]; rfl) | simp only [Tr.get_put, Nat.reduceEqDiff, reduceCtorEq, if_true, if_false]), (by first | (simp only [Tr.get_put, Nat.reduceEqDiff, reduceCtorEq, if_true, if_false]; rfl) | simp only [Tr.get_put, Nat.reduceEqDiff, reduceCtorEq, if_true, if_false]), (by first | (simp only [sA, Nat.reduceEqDiff, reduceCtorEq, if_true, if_false]; rfl) | simp only []), HX.refl hw⟩

-- hornbeamref02.Checks
theorem checksR_ev {l : List Tm} {a : Option Addr} {c : Nat} {cells : Nat → List Value} {H : Heap} (rl : RepL H l a c cells) (hw : H.wf) :
    EvF Tryd.prog okT 54 [.slice a l.length c] H fun v H' => v = .int .i64 (chkL l) ∧ HX H H' := by
  have hm := rl.max
  refine EvF.enter rfl Tryd.func54 (by decide) rfl ?_
  repeat' (first | refine EvC.seq ?_ | refine EvC.scope ?_ | refine EvC.block ?_ | (refine EvC.skip ?_) | (refine EvC.exit ?_) | (refine EvC.ret ?_; try simp only [thenC_ret, inBlock_ret]) | (refine EvC.reg ?_; simp (config := { maxSteps := 2000000 }) (disch := first | omega | rfl) only [sA, initTm]))
  refine EvC.loop (fun k st => ∃ tm H' i, st = ⟨tm, [], H'⟩ ∧ k = l.length - i ∧ i ≤ l.length ∧ chkL (l.drop i) = chkL l ∧ tm.get 0 = some (.slice a l.length c) ∧ tm.get 3 = some (.int .i64 (i : Nat)) ∧ HX H H') ?_ l.length _ ?_
  · rintro k st ⟨tm, H', i, rfl, rfl, hi, hc, g6, g8, hx⟩
    by_cases hlt : i < l.length
    · obtain ⟨b, o, a1, c1, rfl, hld, hr⟩ := rl.el hlt
      have hld1 := hx.load hw hld
      repeat' (first | refine EvC.seq ?_ | refine EvC.scope ?_ | refine EvC.block ?_ | (refine EvC.skip ?_; try simp only [thenC_normal]) | (refine EvC.exit ?_) | (refine EvC.ret ?_; try simp only [thenC_ret, inBlock_ret]) | (refine EvC.reg ?_; simp (config := { maxSteps := 2000000 }) (disch := first | omega | rfl) only [sA, Nat.reduceEqDiff, reduceCtorEq, if_true, if_false, ln24, ia24, ld26, cl16, g6, g8, decl hlt, hld1]) | (refine EvC.condT ?_ ?_; simp (config := { maxSteps := 2000000 }) (disch := first | omega | rfl) only [sA, Nat.reduceEqDiff, if_true, if_false]; refine EvC_go ?_))
      refine (checkR_tells _ _ _ (hr.mono hx hw) hx.wf).mono ?_
      rintro v H3 ⟨rfl, hx3⟩
      by_cases h0 : checkS l[i] = 0
      · repeat' (first | refine EvC.seq ?_ | refine EvC.scope ?_ | refine EvC.block ?_ | (refine EvC.skip ?_; try simp only [sA]) | (refine EvC.exit ?_) | (refine EvC.ret ?_; try simp only [thenC_ret, inBlock_ret]) | (refine EvC.reg ?_; simp (config := { maxSteps := 2000000 }) (disch := first | omega | rfl) only [sA, Nat.reduceEqDiff, if_true, if_false, g8, ine_f h0, wrap_i64]) | (refine EvC.condT ?_ ?_; simp (config := { maxSteps := 2000000 }) (disch := first | omega | rfl) only [sA, Nat.reduceEqDiff, if_true, if_false]; refine EvC_go ?_) | (refine EvC.condF ?_ ?_; simp (config := { maxSteps := 2000000 }) (disch := first | omega | rfl) only [sA, Nat.reduceEqDiff, if_true, if_false]; refine EvC_go ?_))
        exact ⟨l.length - (i + 1), by omega, _, _, i + 1, rfl, rfl, by omega, by rw [← hc, chkL_drop hlt, if_pos h0], (by first | (simp only [Tr.get_put, reduceCtorEq, if_false, g6]; rfl) | simp only [Tr.get_put, reduceCtorEq, if_false, g6]), (by first | (simp only [sA, Nat.reduceEqDiff, if_true, if_false]; rfl) | simp only []), hx.trans hx3⟩
      · repeat' (first | refine EvC.seq ?_ | refine EvC.scope ?_ | refine EvC.block ?_ | (refine EvC.skip ?_) | (refine EvC.exit ?_) | (refine EvC.ret ?_; try simp only [thenC_ret, inBlock_ret]) | (refine EvC.reg ?_; simp (config := { maxSteps := 2000000 }) (disch := first | omega | rfl) only [sA, Nat.reduceEqDiff, if_true, if_false, ine_t h0]) | (refine EvC.condT ?_ ?_; simp (config := { maxSteps := 2000000 }) (disch := first | omega | rfl) only [sA, Nat.reduceEqDiff, if_true, if_false]; refine EvC_go ?_))
        exact leave_one rfl (by first | (simp only [sA, Nat.reduceEqDiff, if_true, if_false]; rfl) | simp only []) ⟨by rw [← hc, chkL_drop hlt, if_neg h0], hx.trans hx3⟩
    · repeat' (first | refine EvC.seq ?_ | refine EvC.scope ?_ | refine EvC.block ?_ | (refine EvC.skip ?_) | (refine EvC.exit ?_; try simp only [sA, if_true]) | (refine EvC.ret ?_; try simp only [thenC_ret, inBlock_ret]) | (refine EvC.reg ?_; simp (config := { maxSteps := 2000000 }) (disch := first | omega | rfl) only [sA, Nat.reduceEqDiff, reduceCtorEq, if_true, if_false, ln24, g6, g8, decn hlt]) | (refine EvC.condT ?_ ?_; simp (config := { maxSteps := 2000000 }) (disch := first | omega | rfl) only [sA, Nat.reduceEqDiff, if_true, if_false]; refine EvC_go ?_) | (refine EvC.condF ?_ ?_; simp (config := { maxSteps := 2000000 }) (disch := first | omega | rfl) only [sA, Nat.reduceEqDiff, if_true, if_false]; refine EvC_go ?_))
      exact leave_one rfl (by first | (simp only [sA, Nat.reduceEqDiff, if_true, if_false]; rfl) | simp only []) ⟨by rw [← hc, List.drop_of_length_le (by omega), chkL], hx⟩
  · exact ⟨_, _, 0, rfl, rfl, by omega, rfl, (by first | (simp only [Tr.get_put, reduceCtorEq, if_true, if_false]; rfl) | simp only [Tr.get_put, reduceCtorEq, if_true, if_false]), (by first | (simp only [sA, Nat.reduceEqDiff, reduceCtorEq, if_true, if_false]; rfl) | simp only []), HX.refl hw⟩

-- hornbeamlaw02.first
theorem first_ev {l : List Tm} {a : Option Addr} {c : Nat} {cells : Nat → List Value} {H : Heap} (rl : RepL H l a c cells) (hw : H.wf) :
    EvF Tryd.prog okT 18 [.slice a l.length c] H fun v H' => v = .int .i64 (chkL l) ∧ HX H H' := by
  refine EvF.enter rfl Tryd.func18 (by decide) rfl ?_
  repeat' (first | refine EvC.seq ?_ | refine EvC.scope ?_ | refine EvC.block ?_ | (refine EvC.skip ?_) | (refine EvC.exit ?_) | (refine EvC.ret ?_; try simp only [thenC_ret, inBlock_ret]) | (refine EvC.reg ?_; simp (config := { maxSteps := 2000000 }) (disch := first | omega | rfl) only [sA, initTm, Nat.reduceEqDiff, reduceCtorEq, if_true, if_false, cl54]))
  refine (checksR_ev rl hw).mono ?_
  rintro v H3 ⟨rfl, hx3⟩
  repeat' (first | refine EvC.seq ?_ | refine EvC.scope ?_ | refine EvC.block ?_ | (refine EvC.skip ?_) | (refine EvC.exit ?_) | (refine EvC.ret ?_; try simp only [thenC_ret, inBlock_ret]))
  exact leave_one rfl (by first | (simp only [Tr.get_put, Nat.reduceEqDiff, reduceCtorEq, if_true, if_false]; rfl) | simp only [Tr.get_put, Nat.reduceEqDiff, reduceCtorEq, if_true, if_false]) ⟨rfl, hx3⟩
end Go.Proofs.YtlllbkjiadcloaaDoor.hb
end

-- V7
section
/- Lists together, in plain words; the program's. -/
namespace Go.Proofs.YtlllbkjiadcloaaDoor.hb
open Go Go.RowKit Go.Hb
variable {ok : Ok}
set_option maxRecDepth 10000
attribute [local irreducible] LX LG EL STG SOP SGO SGD SAL SRD SEF SEG SLK SCK ES
-- @veq
abbrev dot : ByteArray := ⟨#[46]⟩
def zeroT : Tm := .mk 0 ByteArray.empty ByteArray.empty 0 0 []
def listed (l : List Tm) (e : Tm) : Tm := l.foldr (fun t u => .mk 5 dot ByteArray.empty 0 0 [t, u]) e
def totN : List Tm → Nat → Nat
  | [], n => n
  | t :: l, n => if 4000 < n then n else totN l (n + (1 + cnt t 0))
def listE (l : List Tm) (e : Tm) : Int := if orZ (chkL l) (checkS e) = 0 then (if 4000 < totN l (cnt e 0) then 24 else 0) else orZ (chkL l) (checkS e)
def listT (l : List Tm) (e : Tm) : Tm := if listE l e = 0 then listed l e else zeroT
theorem totN_over {l : List Tm} {n : Nat} (h : 4000 < n) : totN l n = n := by
  cases l with
  | nil => rw [totN]
  | cons t l => rw [totN, if_pos h]
theorem totN_drop {l : List Tm} {i n : Nat} (h : i < l.length) (hn : n ≤ 4000) : totN (l.drop i) n = totN (l.drop (i + 1)) (n + (1 + cnt l[i] 0)) := by
  rw [List.drop_eq_getElem_cons h, totN, if_neg (by omega)]
theorem cnt_pos (t : Tm) : 1 ≤ cnt t 0 := by
  have mono : ∀ (l : List Tm), (∀ t ∈ l, ∀ n, n ≤ cnt t n) → ∀ n, n ≤ cntL l n := by
    intro l
    induction l with
    | nil => intro _ n; rw [cntL]; exact Nat.le_refl _
    | cons t l ih =>
      intro h n
      rw [cntL]
      split
      · exact Nat.le_refl _
      · exact Nat.le_trans (h t (by simp) n) (ih (fun u hu => h u (List.mem_cons_of_mem _ hu)) _)
  have key : ∀ (m : Nat) (t : Tm), SizeOf.sizeOf t < m → ∀ n, n + 1 ≤ cnt t n := by
    intro m
    induction m with
    | zero => intro t h; omega
    | succ m ih =>
      intro t h n
      rw [cnt_args]
      exact mono _ (fun u hu k => by have := ih u (by have := mem_args_size hu; omega) k; omega) _
  exact key _ t (Nat.lt_succ_self _) 0
theorem totN_le : ∀ (l : List Tm) (n : Nat), totN l n ≤ 4000 → n + 2 * l.length ≤ 4000
  | [], n, h => by rw [totN] at h; simpa using h
  | t :: l, n, h => by
    rw [totN] at h
    split at h
    · omega
    · have := totN_le l _ h
      have := cnt_pos t
      rw [List.length_cons]; omega
theorem cnt_cap (t : Tm) : cnt t 0 ≤ 4001 := cnt_le _ t (Nat.lt_succ_self _) 0 (by omega)
theorem totN_cap : ∀ (l : List Tm) (n : Nat), n ≤ 8002 → totN l n ≤ 8002
  | [], n, h => by rw [totN]; exact h
  | t :: l, n, h => by
    rw [totN]
    split
    · exact h
    · have := cnt_cap t; exact totN_cap l _ (by omega)

theorem repF_zero {H : Heap} {T : TypeId} {S : Nat → Prop} : RepF H T S zeroT zero6 :=
  ⟨none, 0, rfl, ⟨by simp [i64, zeroT, Tm.kind], by simp [zeroT, Tm.name, maxLen], by simp [zeroT, Tm.num, maxLen], by simp [u64, zeroT, Tm.bits], by simp [i64, zeroT, Tm.var]⟩, .nil _⟩
theorem bd_pair {t u : Tm} : Bd (.mk 5 dot ByteArray.empty 0 0 [t, u]) :=
  ⟨by simp [i64, Tm.kind], by simp [Tm.name, maxLen, ByteArray.size], by simp [Tm.num, maxLen], by simp [u64, Tm.bits], by simp [i64, Tm.var]⟩
/-- two trees, side by side in a row -/
theorem FL.pair {H : Heap} {T : TypeId} {S S1 S2 : Nat → Prop} {t u : Tm} {a a' : Option Addr} {c c' b : Nat} (h1 : FL H T S1 t.args a c) (h2 : FL H T S2 u.args a' c') (b1 : Bd t) (b2 : Bd u) (hg : H.get b = some (.row (six t a c ++ six u a' c') T))
    (hb : S b) (hb1 : ¬ S1 b) (hb2 : ¬ S2 b) (hs1 : ∀ n, S1 n → S n) (hs2 : ∀ n, S2 n → S n) (hd : ∀ n, S1 n → ¬ S2 n) : FL H T S [t, u] (some ⟨b, 0, none⟩) 2 := by
  refine .row S [t, u] b 2 _ (fun i => if i = 0 then S1 else S2) (fun i => if i = 0 then a else a') (fun i => if i = 0 then c else c') (Nat.le_refl _) (by simp [maxLen]) hg (Nat.le_refl _) ?_ ?_ hb ?_ ?_ ?_ ?_
  · intro i v hv
    match i, hv with
    | 0, hv => cases hv; rfl
    | 1, hv => cases hv; rfl
  · intro i v hv
    match i, hv with
    | 0, hv => cases hv; exact b1
    | 1, hv => cases hv; exact b2
  · intro i hi
    match i, hi with
    | 0, _ => exact hb1
    | 1, _ => exact hb2
  · intro i n hi hn
    match i, hi with
    | 0, _ => exact hs1 n hn
    | 1, _ => exact hs2 n hn
  · intro i j n hi hj hn hm
    match i, j, hi, hj with
    | 0, 0, _, _ => rfl
    | 1, 1, _, _ => rfl
    | 0, 1, _, _ => exact absurd hm (hd n hn)
    | 1, 0, _, _ => exact absurd hn (hd n hm)
  · intro i v hv
    match i, hv with
    | 0, hv => cases hv; exact h1
    | 1, hv => cases hv; exact h2

-- api.Term]
theorem backF_ev {a : Option Addr} {n c : Nat} {H : Heap} (hw : H.wf) : EvF Tryd.prog okT 62 [.slice a n c] H fun v H' =>
    v = .func (.func 92) #[] #[.pointer (some ⟨H.next, 0, none⟩)] ∧ H'.get H.next = some (.row [.slice a n c] 24) ∧ H'.next = H.next + 1 ∧ HX H H' := by
  refine EvF.enter rfl Tryd.func62 (by decide) rfl ?_
  repeat' (first | refine EvC.seq ?_ | refine EvC.scope ?_ | refine EvC.block ?_ | (refine EvC.skip ?_) | (refine EvC.exit ?_) | (refine EvC.ret ?_; try simp only [thenC_ret, inBlock_ret]) | (refine EvC.reg ?_; simp (config := { maxSteps := 2000000 }) (disch := first | omega | rfl) only [sA, initTm, dBox, Nat.reduceEqDiff, Value.cells, one, reduceCtorEq, if_true, if_false]))
  obtain ⟨H2, e2, hx2, g2, hn2, hw2⟩ := new1 hw (.row [.slice a n c] 24)
  simp only [e2]
  exact leave_one rfl (by first | (simp only [sA, Nat.reduceEqDiff, reduceCtorEq, if_true, if_false]; rfl) | simp only []) ⟨by simp [ev_tmp, Tr.get_put], g2, hn2, hx2⟩

-- term.List
set_option maxHeartbeats 8000000 in
theorem list_ev {l : List Tm} {e : Tm} {a : Option Addr} {c : Nat} {cells : Nat → List Value} {cs : List Value} {H : Heap} (rl : RepL H l a c cells) (r : RepT H e cs) (hw : H.wf) :
    EvF Tryd.prog okT 21 [.slice a l.length c, .agg ⟨cs⟩] H fun v H' => ∃ out, v = .tuple #[.agg ⟨out⟩, .int .i64 (listE l e)] ∧ RepF H' 26 (Rg H.next H'.next) (listT l e) out ∧ HX H H' := by
  have r0 := r
  obtain ⟨ae, ce, cellse, rfl, -⟩ := r.six
  have hmx := rl.max
  refine EvF.enter rfl Tryd.func21 (by decide) rfl ?_
  (repeat refine EvC.seq ?_); refine EvC.reg ?_; simp (config := { maxSteps := 2000000 }) (disch := first | omega | rfl) only [sA, initTm, dBox, dAlloc, Value.cells, one, reduceCtorEq, if_true, if_false, zr26]
  obtain ⟨H2, e2, hx2, gp, gq, hn2, hw2⟩ := new2 hw (.row (six e ae ce) 26) (.row zero6 26)
  simp only [e2]
  clear e2
  have q1 := row6 gp
  repeat' (first | refine EvC.seq ?_ | refine EvC.scope ?_ | refine EvC.block ?_ | (refine EvC.skip ?_) | (refine EvC.exit ?_) | (refine EvC.ret ?_; try simp only [thenC_ret, inBlock_ret]) | (refine EvC.drw (id := 1) [([(0, 0)], some 1), ([(2, 0)], some 3), ([(4, 2)], some 5), ([(6, 3)], none)] ?_ ?_; kernel_rfl; simp (config := { maxSteps := 2000000 }) (disch := first | omega | rfl) only [sD, sA, Nat.reduceEqDiff, Nat.reduceAdd, reduceCtorEq, if_true, if_false, cl52, isAlloc, isRead, reduceCtorEq]))
  have hxb := hx2.bump 7
  refine (checks_ev (rl.mono hxb hw) hxb.wf).mono ?_
  rintro v H3 ⟨rfl, hx3⟩
  have hx23 := hxb.trans hx3
  have q1' := row6 (hx3.get hxb.wf (show Heap.get ⟨H2.next + 7, H2.t⟩ H.next = some (.row (six e ae ce) 26) from gp))
  repeat' (first | refine EvC.seq ?_ | refine EvC.scope ?_ | refine EvC.block ?_ | (refine EvC.skip ?_) | (refine EvC.exit ?_) | (refine EvC.ret ?_; try simp only [thenC_ret, inBlock_ret]) | (refine SCK_go ?_; simp (config := { maxSteps := 2000000 }) (disch := first | omega | rfl) only [sV, sD, sA, Nat.reduceEqDiff, reduceCtorEq, if_true, if_false, ld26, cl15, q1, q1', isAlloc, isRead, reduceCtorEq]))
  refine (check_tells e _ _ (r0.mono hx23 hw) hx23.wf).mono ?_
  rintro v H4 ⟨rfl, hx4⟩
  have hx24 := hx23.trans hx4
  have hlt4 : H2.next + 4 < H4.next := by have h1 := hx4.next; have h2 : H2.next + 7 ≤ H3.next := hx3.next; omega
  repeat' (first | refine EvC.seq ?_ | refine EvC.scope ?_ | refine EvC.block ?_ | (refine EvC.skip ?_) | (refine EvC.exit ?_) | (refine EvC.ret ?_; try simp only [thenC_ret, inBlock_ret]) | (refine SCK_go ?_; simp (config := { maxSteps := 2000000 }) (disch := first | omega | rfl) only [sD, sA, Nat.reduceEqDiff, Nat.reduceAdd, Value.cells, one, reduceCtorEq, if_true, if_false, Nat.reduceLeDiff, layC, bs109_2, cl60, isAlloc, dalloc, reduceCtorEq]))
  obtain ⟨H5, e5⟩ : ∃ H5, H4.put (H2.next + 4) (some (.row [.int .i64 (chkL l), .int .i64 (checkS e)] 28)) = H5 := ⟨_, rfl⟩
  have hx5 : HX H H5 := by rw [← e5]; exact hx24.put (by omega) hlt4 _
  have g5 : H5.get (H2.next + 4) = some (.row [.int .i64 (chkL l), .int .i64 (checkS e)] 28) := by rw [← e5, get_put, if_pos rfl]
  have gp5 : H5.get H.next = some (.row (six e ae ce) 26) := by
    rw [← e5, get_put, if_neg (by omega)]; exact hx4.get hx23.wf (hx3.get hxb.wf (show Heap.get ⟨H2.next + 7, H2.t⟩ H.next = some (.row (six e ae ce) 26) from gp))
  have gq5 : H5.get (H.next + 1) = some (.row zero6 26) := by
    rw [← e5, get_put, if_neg (by omega)]; exact hx4.get hx23.wf (hx3.get hxb.wf (show Heap.get ⟨H2.next + 7, H2.t⟩ (H.next + 1) = some (.row zero6 26) from gq))
  simp only [e5]
  refine (orE_ev (row2 g5).1 (row2 g5).2).mono ?_
  rintro v H5' ⟨rfl, rfl⟩
  have q1 := row6 gp5
  by_cases hE : orZ (chkL l) (checkS e) = 0
  rotate_left
  · repeat' (first | refine EvC.seq ?_ | refine EvC.scope ?_ | refine EvC.block ?_ | (refine EvC.skip ?_) | (refine EvC.exit ?_) | (refine EvC.ret ?_; try simp only [thenC_ret, inBlock_ret]) | (refine EvC.reg ?_; simp (config := { maxSteps := 2000000 }) (disch := first | omega | rfl) only [sA, Nat.reduceEqDiff, Nat.reduceAdd, Value.cells, one, reduceCtorEq, if_true, if_false, layC, bd26, st26, ine_t hE, gq5]) | (refine SCK_go ?_; simp (config := { maxSteps := 2000000 }) (disch := first | omega | rfl) only [sD, sA, Nat.reduceEqDiff, Nat.reduceAdd, reduceCtorEq, if_true, if_false, isAlloc, isRead, reduceCtorEq]) | (refine EvC.condT ?_ ?_; simp (config := { maxSteps := 2000000 }) (disch := first | omega | rfl) only [sA, Nat.reduceEqDiff, reduceCtorEq, if_true, if_false]; refine EvC_go ?_))
    refine leave_cell_two rfl (by first | (simp only [sA, Nat.reduceEqDiff, reduceCtorEq, if_true, if_false]; rfl) | simp only []) (by first | (simp only [sA, Nat.reduceAdd, if_true, cutC, ld26]; rfl) | simp only []) (by first | (simp only [sA, Nat.reduceEqDiff, reduceCtorEq, if_true, if_false]; rfl) | simp only []) ⟨zero6, ?_, ?_, hx5.pt (by omega) gq5 _⟩
    · rw [listE, if_neg hE]
    · rw [listT, listE, if_neg hE, if_neg hE]; exact repF_zero
  repeat' (first | refine EvC.seq ?_ | refine EvC.scope ?_ | refine EvC.block ?_ | (refine EvC.skip ?_; try simp only [thenC_normal]) | (refine EvC.exit ?_) | (refine EvC.ret ?_; try simp only [thenC_ret, inBlock_ret]) | (refine EvC.reg ?_; simp (config := { maxSteps := 2000000 }) (disch := first | omega | rfl) only [sA, Nat.reduceEqDiff, reduceCtorEq, if_true, if_false, ld26, cl13, ine_f hE, q1]) | (refine SCK_go ?_; simp (config := { maxSteps := 2000000 }) (disch := first | omega | rfl) only [sD, sA, Nat.reduceEqDiff, Nat.reduceAdd, reduceCtorEq, if_true, if_false, isAlloc, isRead, reduceCtorEq]) | (refine EvC.condT ?_ ?_; simp (config := { maxSteps := 2000000 }) (disch := first | omega | rfl) only [sA, Nat.reduceEqDiff, reduceCtorEq, if_true, if_false]; refine EvC_go ?_) | (refine EvC.condF ?_ ?_; simp (config := { maxSteps := 2000000 }) (disch := first | omega | rfl) only [sA, Nat.reduceEqDiff, reduceCtorEq, if_true, if_false]; refine EvC_go ?_))
  refine (nodes_tells e _ _ (r0.mono hx5 hw) hx5.wf).mono ?_
  rintro v H6 ⟨rfl, hx6⟩
  have gp6 := hx6.get hx5.wf gp5
  have gq6 := hx6.get hx5.wf gq5
  have hx6 := hx5.trans hx6
  have hcl : chkL l = 0 := (orZ_zero.1 hE).1
  have hce : checkS e = 0 := (orZ_zero.1 hE).2
  (repeat refine EvC.seq ?_); refine EvC.reg ?_; simp (config := { maxSteps := 2000000 }) (disch := first | omega | rfl) only [sA, Nat.reduceEqDiff, reduceCtorEq, if_true, if_false, ln24]
  refine EvC.meet (fun st => ∃ tm H', st = ⟨tm, [], H'⟩ ∧ tm.get 0 = some (.slice a l.length c) ∧ tm.get 3 = some (.pointer (some ⟨H.next, 0, none⟩)) ∧ tm.get 4 = some (.pointer (some ⟨H.next + 1, 0, none⟩)) ∧
      tm.get 7 = some (.int .i64 (totN l (cnt e 0) : Nat)) ∧ H'.get H.next = some (.row (six e ae ce) 26) ∧ H'.get (H.next + 1) = some (.row zero6 26) ∧ HX H H') ?_ ?_
  · refine EvC.block (EvC.loop (fun k st => ∃ tm H' i n, st = ⟨tm, [], H'⟩ ∧ k = l.length - i ∧ i ≤ l.length ∧ n ≤ 8002 ∧ totN (l.drop i) n = totN l (cnt e 0) ∧ tm.get 0 = some (.slice a l.length c) ∧ tm.get 3 = some (.pointer (some ⟨H.next, 0, none⟩)) ∧ tm.get 4 = some (.pointer (some ⟨H.next + 1, 0, none⟩)) ∧
      tm.get 7 = some (.int .i64 (n : Nat)) ∧ tm.get 25 = some (.slice a l.length c) ∧ tm.get 26 = some (.int .i64 l.length) ∧ tm.get 27 = some (.int .i64 (i : Nat)) ∧ H'.get H.next = some (.row (six e ae ce) 26) ∧ H'.get (H.next + 1) = some (.row zero6 26) ∧ HX H H') ?_ l.length _ ?_)
    · rintro k st ⟨tm, H', i, n, rfl, rfl, hi, hn8, htot, t0, t3, t4, t7, t25, t26, t27, gp', gq', hx'⟩
      by_cases hlt : i < l.length
      · obtain ⟨b, o, a1, c1, rfl, hld, hr1⟩ := rl.el hlt
        have hld1 := hx'.load hw hld
        by_cases hov : 4000 < n
        · have hd : decide ((n : Int) > 4000) = true := decide_eq_true (by omega)
          repeat' (first | refine EvC.seq ?_ | refine EvC.scope ?_ | refine EvC.block ?_ | (refine EvC.skip ?_; try simp only [thenC_normal]) | (refine EvC.exit ?_; try simp only [sA, reduceCtorEq, if_true, if_false]) | (refine EvC.ret ?_; try simp only [thenC_ret, inBlock_ret]) | (refine EvC.reg ?_; simp (config := { maxSteps := 2000000 }) (disch := first | omega | rfl) only [sA, dAlloc, Nat.reduceEqDiff, Nat.reduceAdd, one, if_true, if_false, zr26, ld26, st26, ia24, t25, t26, t27, decl hlt, hld1, t7, hd]) | (refine EvC.condT ?_ ?_; simp (config := { maxSteps := 2000000 }) (disch := first | omega | rfl) only [sA, Nat.reduceEqDiff, if_true, if_false]; refine EvC_go ?_))
          obtain ⟨H7, e7, hx7, g7, hn7, hw7⟩ := newput hx'.wf (.row zero6 26) (.row (six l[i] a1 c1) 26)
          refine ⟨_, _, rfl, (by first | (simp only [Tr.get_put, reduceCtorEq, if_false, t0]; rfl) | simp only [Tr.get_put, reduceCtorEq, if_false, t0]), (by first | (simp only [Tr.get_put, Nat.reduceEqDiff, if_false, t3]; rfl) | simp only [Tr.get_put, Nat.reduceEqDiff, if_false, t3]), (by first | (simp only [Tr.get_put, Nat.reduceEqDiff, if_false, t4]; rfl) | simp only [Tr.get_put, Nat.reduceEqDiff, if_false, t4]), by rw [← htot, totN_over hov]; first | (simp only [Tr.get_put, Nat.reduceEqDiff, if_false, t7]; rfl) | simp only [Tr.get_put, Nat.reduceEqDiff, if_false, t7], ?_, ?_, ?_⟩
          · rw [e7]; exact hx7.get hx'.wf gp'
          · rw [e7]; exact hx7.get hx'.wf gq'
          · rw [e7]; exact hx'.trans hx7
        · have hd : decide ((n : Int) > 4000) = false := decide_eq_false (by omega)
          repeat' (first | refine EvC.seq ?_ | refine EvC.scope ?_ | refine EvC.block ?_ | (refine EvC.skip ?_; try simp only [thenC_normal]) | (refine EvC.exit ?_) | (refine EvC.ret ?_; try simp only [thenC_ret, inBlock_ret]) | (refine EvC.reg ?_; simp (config := { maxSteps := 2000000 }) (disch := first | omega | rfl) only [sA, dAlloc, Nat.reduceEqDiff, Nat.reduceAdd, one, if_true, if_false, cutC, zr26, ld26, st26, cl13, ia24, t25, t26, t27, decl hlt, hld1, t7, hd]) | (refine EvC.condT ?_ ?_; simp (config := { maxSteps := 2000000 }) (disch := first | omega | rfl) only [sA, Nat.reduceEqDiff, if_true, if_false]; refine EvC_go ?_) | (refine EvC.condF ?_ ?_; simp (config := { maxSteps := 2000000 }) (disch := first | omega | rfl) only [sA, Nat.reduceEqDiff, if_true, if_false]; refine EvC_go ?_))
          obtain ⟨H7, e7, hx7, g7, hn7, hw7⟩ := newput hx'.wf (.row zero6 26) (.row (six l[i] a1 c1) 26)
          simp only [e7]
          refine (nodes_tells l[i] _ _ (hr1.mono (hx'.trans hx7) hw) hw7).mono ?_
          rintro v H8 ⟨rfl, hx8⟩
          have hx78 := hx7.trans hx8
          have hcap := cnt_cap l[i]
          repeat' (first | refine EvC.seq ?_ | refine EvC.scope ?_ | refine EvC.block ?_ | (refine EvC.skip ?_) | (refine EvC.exit ?_) | (refine EvC.ret ?_; try simp only [thenC_ret, inBlock_ret]) | (refine EvC.reg ?_; simp (config := { maxSteps := 2000000 }) (disch := first | omega | rfl) only [sA, Nat.reduceEqDiff, if_true, if_false, t27, wrap_i64]) | (refine LX_go ?_; simp (config := { maxSteps := 2000000 }) (disch := first | omega | rfl) only [sA, Nat.reduceEqDiff, if_true, if_false, wrap_i64]))
          exact ⟨l.length - (i + 1), by omega, _, _, i + 1, n + (1 + cnt l[i] 0), rfl, rfl, by omega, by omega, by rw [← htot, totN_drop hlt (by omega)], (by first | (simp only [Tr.get_put, reduceCtorEq, if_false, t0]; rfl) | simp only [Tr.get_put, reduceCtorEq, if_false, t0]), (by first | (simp only [Tr.get_put, Nat.reduceEqDiff, if_false, t3]; rfl) | simp only [Tr.get_put, Nat.reduceEqDiff, if_false, t3]), (by first | (simp only [Tr.get_put, Nat.reduceEqDiff, if_false, t4]; rfl) | simp only [Tr.get_put, Nat.reduceEqDiff, if_false, t4]), (by first | (simp only [sA, Nat.reduceEqDiff, if_true, if_false]; rfl) | simp only []), (by first | (simp only [Tr.get_put, Nat.reduceEqDiff, if_false, t25]; rfl) | simp only [Tr.get_put, Nat.reduceEqDiff, if_false, t25]), (by first | (simp only [Tr.get_put, Nat.reduceEqDiff, if_false, t26]; rfl) | simp only [Tr.get_put, Nat.reduceEqDiff, if_false, t26]), (by first | (simp only [sA, Nat.reduceEqDiff, if_true, if_false]; rfl) | simp only []), hx78.get hx'.wf gp', hx78.get hx'.wf gq', hx'.trans hx78⟩
      · repeat' (first | refine EvC.seq ?_ | refine EvC.scope ?_ | refine EvC.block ?_ | (refine EvC.skip ?_) | (refine EvC.exit ?_; try simp only [sA, reduceCtorEq, if_true]) | (refine EvC.ret ?_; try simp only [thenC_ret, inBlock_ret]) | (refine EvC.reg ?_; simp (config := { maxSteps := 2000000 }) (disch := first | omega | rfl) only [sA, t26, t27, decn hlt]) | (refine EvC.condT ?_ ?_; simp (config := { maxSteps := 2000000 }) (disch := first | omega | rfl) only [sA, if_true]; refine EvC_go ?_) | (refine EvC.condF ?_ ?_; simp (config := { maxSteps := 2000000 }) (disch := first | omega | rfl) only [sA, if_true]; refine EvC_go ?_))
        rw [List.drop_of_length_le (by omega), totN] at htot
        exact ⟨_, _, rfl, (by first | (simp only [Tr.get_put, reduceCtorEq, if_false, t0]; rfl) | simp only [Tr.get_put, reduceCtorEq, if_false, t0]), (by first | (simp only [Tr.get_put, Nat.reduceEqDiff, if_false, t3]; rfl) | simp only [Tr.get_put, Nat.reduceEqDiff, if_false, t3]), (by first | (simp only [Tr.get_put, Nat.reduceEqDiff, if_false, t4]; rfl) | simp only [Tr.get_put, Nat.reduceEqDiff, if_false, t4]), by rw [← htot]; first | (simp only [Tr.get_put, Nat.reduceEqDiff, if_false, t7]; rfl) | simp only [Tr.get_put, Nat.reduceEqDiff, if_false, t7], gp', gq', hx'⟩
    · exact ⟨_, _, 0, cnt e 0, rfl, rfl, by omega, by have := cnt_cap e; omega, rfl, (by first | (simp only [Tr.get_put, reduceCtorEq, if_true, if_false]; rfl) | simp only [Tr.get_put, reduceCtorEq, if_true, if_false]), (by first | (simp only [Tr.get_put, Nat.reduceEqDiff, reduceCtorEq, if_true, if_false]; rfl) | simp only [Tr.get_put, Nat.reduceEqDiff, reduceCtorEq, if_true, if_false]), (by first | (simp only [Tr.get_put, Nat.reduceEqDiff, reduceCtorEq, if_true, if_false]; rfl) | simp only [Tr.get_put, Nat.reduceEqDiff, reduceCtorEq, if_true, if_false]), (by first | (simp only [Tr.get_put, Nat.reduceEqDiff, reduceCtorEq, if_true, if_false]; rfl) | simp only [Tr.get_put, Nat.reduceEqDiff, reduceCtorEq, if_true, if_false]), (by first | (simp only [Tr.get_put, Nat.reduceEqDiff, reduceCtorEq, if_true, if_false]; rfl) | simp only [Tr.get_put, Nat.reduceEqDiff, reduceCtorEq, if_true, if_false]), (by first | (simp only [Tr.get_put, Nat.reduceEqDiff, reduceCtorEq, if_true, if_false]; rfl) | simp only [Tr.get_put, Nat.reduceEqDiff, reduceCtorEq, if_true, if_false]), (by first | (simp only [sA, Nat.reduceEqDiff, reduceCtorEq, if_true, if_false]; rfl) | simp only []), gp6, gq6, hx6⟩
  · rintro st ⟨tm, H', rfl, t0, t3, t4, t7, gp', gq', hx'⟩
    have q1 := row6 gp'
    by_cases hov : 4000 < totN l (cnt e 0)
    · have hd : decide ((totN l (cnt e 0) : Int) > 4000) = true := decide_eq_true (by omega)
      repeat' (first | refine EvC.seq ?_ | refine EvC.scope ?_ | refine EvC.block ?_ | (refine EvC.skip ?_) | (refine EvC.exit ?_) | (refine EvC.ret ?_; try simp only [thenC_ret, inBlock_ret]) | (refine EvC.reg ?_; simp (config := { maxSteps := 2000000 }) (disch := first | omega | rfl) only [sA, Nat.reduceEqDiff, Nat.reduceAdd, Value.cells, one, if_true, if_false, layC, bd26, st26, t4, t7, hd, gq']) | (refine EvC.condT ?_ ?_; simp (config := { maxSteps := 2000000 }) (disch := first | omega | rfl) only [sA, Nat.reduceEqDiff, if_true, if_false]; refine EvC_go ?_))
      have hlE : listE l e = 24 := by rw [listE, if_pos hE, if_pos hov]
      refine leave_cell_two rfl (by first | (simp only [sA, Nat.reduceEqDiff, if_false, t4]; rfl) | simp only []) (by first | (simp only [sA, Nat.reduceAdd, if_true, cutC, ld26]; rfl) | simp only []) (by first | (simp only [sA, Nat.reduceEqDiff, if_true, if_false]; rfl) | simp only []) ⟨zero6, by rw [hlE], ?_, hx'.pt (by omega) gq' _⟩
      rw [listT, hlE, if_neg (by omega)]; exact repF_zero
    · have hd : decide ((totN l (cnt e 0) : Int) > 4000) = false := decide_eq_false (by omega)
      repeat' (first | refine EvC.seq ?_ | refine EvC.scope ?_ | refine EvC.block ?_ | (refine EvC.skip ?_; try simp only [thenC_normal]) | (refine EvC.exit ?_) | (refine EvC.ret ?_; try simp only [thenC_ret, inBlock_ret]) | (refine EvC.reg ?_; simp (config := { maxSteps := 2000000 }) (disch := first | omega | rfl) only [sA, dAlloc, Nat.reduceEqDiff, if_true, if_false, zr26, ld26, cl61, t3, t7, hd, q1]) | (refine EvC.condT ?_ ?_; simp (config := { maxSteps := 2000000 }) (disch := first | omega | rfl) only [sA, Nat.reduceEqDiff, if_true, if_false]; refine EvC_go ?_) | (refine EvC.condF ?_ ?_; simp (config := { maxSteps := 2000000 }) (disch := first | omega | rfl) only [sA, Nat.reduceEqDiff, if_true, if_false]; refine EvC_go ?_))
      refine (ownT_ev (Nat.lt_succ_self _) (r0.mono hx' hw) (check_zero.1 hce).2 hx'.wf).mono ?_
      rintro v H8 ⟨co, rfl, ⟨ao, ko, rfl, hbe, hfo⟩, hx8⟩
      have gq8 := hx8.get hx'.wf gq'
      have hxh8 := hx'.trans hx8
      repeat' (first | refine EvC.seq ?_ | refine EvC.scope ?_ | refine EvC.block ?_ | (refine EvC.skip ?_) | (refine EvC.exit ?_) | (refine EvC.ret ?_; try simp only [thenC_ret, inBlock_ret]) | (refine EvC.reg ?_; simp (config := { maxSteps := 2000000 }) (disch := first | omega | rfl) only [sA, Nat.reduceEqDiff, reduceCtorEq, if_true, if_false, cl62, t0]) | (refine LX_go ?_; simp (config := { maxSteps := 2000000 }) (disch := first | omega | rfl) only [sA, Nat.reduceAdd, one, if_true, st26]))
      obtain ⟨H9, e9, hx9, g9, hn9, hw9⟩ := newput hx8.wf (.row zero6 26) (.row (six e ao ko) 26)
      simp only [e9]
      refine (backF_ev hw9).mono ?_
      rintro v H10 ⟨rfl, g10, hn10, hx10⟩
      repeat' (first | refine EvC.seq ?_ | refine EvC.scope ?_ | refine EvC.block ?_ | (refine EvC.skip ?_) | (refine EvC.exit ?_) | (refine EvC.ret ?_; try simp only [thenC_ret, inBlock_ret]))
      refine EvC.rangeG rfl (by first | (simp only [sA, Nat.reduceEqDiff, if_true, if_false]; rfl) | simp only []) (by kernel_rfl) ?_
      intro R hR
      obtain ⟨H12, e12, hx12, gd, gR, hn12, hw12⟩ := new2 hx10.wf .dfr R
      simp only [e12]
      have hx9h := hxh8.trans hx9
      have hx10h := hx9h.trans hx10
      have hx12h := hx10h.trans hx12
      have n1 : H'.next ≤ H8.next := hx8.next
      have n2 : H.next + 1 < H'.next := hx'.wf _ _ gq'
      refine (backward_ev (lst := l) (a := a) (c := c) (p := H9.next) (l := H10.next + 1) (cells := cells) (I := fun j G => HX H G ∧ G.get (H.next + 1) = some (.row zero6 26) ∧
        (∃ aj cj, G.get H8.next = some (.row (six (listed (l.drop j) e) aj cj) 26) ∧ FL G 26 (fun n => (H'.next ≤ n ∧ n < H8.next) ∨ (H10.next + 1 < n ∧ n < G.next)) (listed (l.drop j) e).args aj cj ∧ Bd (listed (l.drop j) e)) ∧
        G.get H9.next = some (.row [.slice a l.length c] 24) ∧ G.get H10.next = some .dfr ∧ G.get (H10.next + 1) = some R) ?_ ?_ ?_).mono ?_
      · rintro j G ⟨hxG, -, -, gs, -, -⟩
        exact ⟨gs, rl.mono hxG hw⟩
      · rintro i G hlt ⟨hxG, gqG, ⟨aj, cj, gt, hfl, hbj⟩, gsG, gdG, gRG⟩
        obtain ⟨b, o, a1, c1, rfl, hld, hr1⟩ := rl.el hlt
        obtain ⟨b2, o2, e3, hl3, hr3⟩ := rl.at (List.getElem?_eq_getElem hlt)
        cases e3
        have hcell : cells i = six l[i] a1 c1 := by rw [hld] at hl3; exact (Option.some.inj hl3).symm
        rw [hcell]
        refine EvR.go (gRG.trans (congrArg some hR)) rfl ?_
        have hRl : H10.next + 1 < G.next := hxG.wf _ _ gRG
        (repeat refine EvC.seq ?_); refine EvC.reg ?_; simp (config := { maxSteps := 2000000 }) (disch := first | omega | rfl) only [sA, dAlloc, Nat.reduceEqDiff, Nat.reduceAdd, one, if_true, if_false, zr26, st26, List.zip_cons_cons, List.zip_nil_right, List.foldl_cons, List.foldl_nil]
        refine ⟨by rw [if_neg (by omega), if_neg (by omega)]; exact gRG.trans (congrArg some hR), ?_⟩
        obtain ⟨G1, eG1, hxG1, gG1, nG1, wG1⟩ := newput hxG.wf (.row zero6 26) (.row (six l[i] a1 c1) 26)
        simp only [eG1]
        generalize hG2 : Heap.put G1 (H10.next + 1) _ = G2
        have hx2G : HX H G2 := by rw [← hG2]; exact (hxG.trans hxG1).put (by omega) (by omega) _
        have nG2 : G2.next = G.next + 1 := by rw [← hG2, next_put]; exact nG1
        have keepG : ∀ n, n < G.next → n ≠ H10.next + 1 → G2.get n = G.get n := fun n hn hne => by rw [← hG2, get_put, if_neg hne]; exact hxG1.keep n hn
        have gT2 : G2.get G.next = some (.row (six l[i] a1 c1) 26) := by rw [← hG2, get_put, if_neg (by omega)]; exact gG1
        have gt2 := (keepG H8.next (hxG.wf _ _ gt) (by omega)).trans gt
        have q12 := row6 gT2
        have q10 := row6 gt2
        repeat' (first | refine EvC.seq ?_ | refine EvC.scope ?_ | refine EvC.block ?_ | (refine EvC.skip ?_) | (refine EvC.exit ?_) | (refine EvC.ret ?_; try simp only [thenC_ret, inBlock_ret]) | (refine EvC.drw (id := 16) [([(0, 0)], some 1), ([(2, 0), (3, 1), (4, 1)], some 5), ([], none)] ?_ ?_; kernel_rfl; simp (config := { maxSteps := 2000000 }) (disch := first | omega | rfl) only [sD, sA, Nat.reduceEqDiff, Nat.reduceAdd, reduceCtorEq, if_true, if_false, ld26, cl61, q12, isAlloc, isRead, reduceCtorEq]))
        have hxb6 := hx2G.bump 6
        have hok : checkS l[i] = 0 := chkL_zero hcl _ (List.getElem_mem _)
        refine (ownT_ev (Nat.lt_succ_self _) (hr1.mono hxb6 hw) (check_zero.1 hok).2 hxb6.wf).mono ?_
        rintro v G5 ⟨co2, rfl, ⟨ao2, ko2, rfl, hb5, hf5⟩, hx5'⟩
        have hb65 := ((HX.refl hx2G.wf).bump 6).trans hx5'
        have n5 : G2.next + 6 ≤ G5.next := hx5'.next
        have gt5 := hb65.get hx2G.wf gt2
        have q10' := row6 gt5
        have ne5 : (H8.next = G2.next + 3) = False := by simp; omega
        repeat' (first | refine EvC.seq ?_ | refine EvC.scope ?_ | refine EvC.block ?_ | (refine EvC.skip ?_) | (refine EvC.exit ?_) | (refine EvC.ret ?_; try simp only [thenC_ret, inBlock_ret]) | (refine SCK_go ?_; simp (config := { maxSteps := 2000000 }) (disch := first | omega | rfl) only [sV, sD, sA, Nat.reduceEqDiff, Nat.reduceAdd, Value.cells, one, reduceCtorEq, if_true, if_false, Nat.reduceLeDiff, layC, ld26, bd26, st26, bs24_2, q10, q10', ne5, gt5, isAlloc, isRead, dalloc, reduceCtorEq]))
        have hlt8 : H8.next < H10.next := by omega
        have kf : ∀ (B1 B2 B3 : Option Blk) (n : Nat), n ≠ H10.next + 1 → n ≠ H8.next → n ≠ G2.next + 3 → (((G5.put (G2.next + 3) B1).put H8.next B2).put (H10.next + 1) B3).get n = G5.get n := fun B1 B2 B3 n h1 h2 h3 => by
          rw [get_put, if_neg h1, get_put, if_neg h2, get_put, if_neg h3]
        have hlist : listed (l.drop i) e = .mk 5 dot ByteArray.empty 0 0 [l[i], listed (l.drop (i + 1)) e] := by
          rw [List.drop_eq_getElem_cons hlt]; rfl
        have hG5 : HX H G5 := hxb6.trans hx5'
        have kG5 : ∀ n, n < G.next → n ≠ H10.next + 1 → G5.get n = G.get n := fun n hn hne => by rw [hb65.keep n (by omega)]; exact keepG n hn hne
        rw [hlist]
        refine ⟨?_, ?_, ?_, ⟨some ⟨G2.next + 3, 0, none⟩, 2, ?_, ?_, bd_pair⟩, ?_, ?_, ?_⟩
        · rw [if_neg (by omega), if_neg (by omega), hb65.keep _ (by omega), ← hG2, get_put, if_pos rfl]
        · exact ((hG5.put (i := G2.next + 3) (by omega) (by omega) _).put (i := H8.next) (by omega) (by rw [next_put]; omega) _).put (i := H10.next + 1) (by omega) (by rw [next_put, next_put]; omega) _
        · rw [if_neg (by omega), if_neg (by omega), if_neg (by omega), kG5 _ (by omega) (by omega)]; exact gqG
        · rw [if_neg (by omega)]; first | rfl | (rw [if_pos rfl]; rfl)
        · refine FL.pair (S1 := Rg (G2.next + 6) G5.next) (S2 := fun n => (H'.next ≤ n ∧ n < H8.next) ∨ (H10.next + 1 < n ∧ n < G.next)) (hf5.heap (fun n hn hl => ?_) hx5'.wf) (hfl.heap (fun n hn hl => ?_) hxG.wf) hb5 hbj ?_ ?_ ?_ ?_ ?_ ?_ ?_
          · have : G2.next + 6 ≤ n := hn.1
            exact kf _ _ _ _ (by omega) (by omega) (by omega)
          · rw [kf _ _ _ _ (by rcases hn with hn | hn <;> omega) (by rcases hn with hn | hn <;> omega) (by omega)]
            exact kG5 n hl (by rcases hn with hn | hn <;> omega)
          · rw [get_put, if_neg (by omega), get_put, if_neg (by omega), get_put, if_pos rfl]; rfl
          · right; exact ⟨by omega, by omega⟩
          · rintro ⟨h1, h2⟩; omega
          · rintro (h | h) <;> omega
          · rintro n ⟨h1, h2⟩; right; exact ⟨by omega, by omega⟩
          · rintro n (h | h)
            · exact .inl h
            · right; exact ⟨h.1, by omega⟩
          · rintro n ⟨h1, h2⟩ (h | h) <;> omega
        · rw [if_neg (by omega), if_neg (by omega), if_neg (by omega), kG5 _ (by omega) (by omega)]; exact gsG
        · rw [if_neg (by omega), if_neg (by omega), if_neg (by omega), kG5 _ (by omega) (by omega)]; exact gdG
        · exact hR.symm
      · refine ⟨hx12h, hx12.get hx10.wf (hx10.get hw9 (hx9.get hx8.wf gq8)), ?_, hx12.get hx10.wf g10, gd, gR⟩
        rw [List.drop_of_length_le (Nat.le_refl _)]
        refine ⟨ao, ko, hx12.get hx10.wf (hx10.get hw9 g9), (hfo.keep (hx9.trans (hx10.trans hx12)) hx8.wf).sub fun n hn => .inl hn, hbe⟩
      · rintro v G ⟨hxG, gqG, ⟨aj, cj, gt, hfl, hbj⟩, gsG, gdG, gRG⟩
        refine ⟨gRG, fun B => ?_⟩
        rw [List.drop_zero] at gt hfl hbj
        have hRl : H10.next + 1 < G.next := hxG.wf _ _ gRG
        obtain ⟨G2, hG2⟩ : ∃ G2, G.put (H10.next + 1) B = G2 := ⟨_, rfl⟩
        have hx2G : HX H G2 := by rw [← hG2]; exact hxG.put (by omega) hRl _
        have k2 : ∀ n, n ≠ H10.next + 1 → G2.get n = G.get n := fun n hn => by rw [← hG2, get_put, if_neg hn]
        have gq2 := (k2 _ (by omega)).trans gqG
        have gt2 := (k2 _ (by omega)).trans gt
        have gd2 := (k2 _ (by omega)).trans gdG
        have q10 := row6 gt2
        simp only [hG2, inBlock_normal, thenC_normal]
        repeat' (first | refine EvC.seq ?_ | refine EvC.scope ?_ | refine EvC.block ?_ | (refine EvC.skip ?_) | (refine EvC.exit ?_) | (refine EvC.ret ?_; try simp only [thenC_ret, inBlock_ret]) | (refine EvC.reg ?_; simp (config := { maxSteps := 2000000 }) (disch := first | omega | rfl) only [sA, Nat.reduceEqDiff, Nat.reduceAdd, one, if_true, if_false, ld26, st26, t4, q10, gq2]))
        have hlE : listE l e = 0 := by rw [listE, if_pos hE, if_neg hov]
        refine leave_mark (by rw [get_put, if_neg (by omega)]; exact gd2) ?_
        have ne7 : (H.next + 1 = H10.next) = False := by simp; omega
        refine leave_cell_two rfl (by first | (simp only [sA, Nat.reduceEqDiff, if_false, t4]; rfl) | simp only []) (by first | (simp only [sA, Nat.reduceAdd, if_true, if_false, cutC, ld26, ne7]; rfl) | simp only []) (by first | (simp only [sA, Nat.reduceEqDiff, if_true, if_false]; rfl) | simp only []) ⟨six (listed l e) aj cj, by rw [hlE], ?_, ?_⟩
        · have hlT : listT l e = listed l e := by rw [listT, if_pos hlE]
          rw [hlT]
          refine ⟨aj, cj, rfl, hbj, (hfl.heap (fun n hn hl => ?_) hxG.wf).sub fun n hn => ?_⟩
          · rw [get_put, if_neg (by rcases hn with hn | hn <;> omega), get_put, if_neg (by rcases hn with hn | hn <;> omega)]
            exact k2 n (by rcases hn with hn | hn <;> omega)
          · have e2 : G2.next = G.next := by rw [← hG2, next_put]
            refine ⟨by rcases hn with hn | hn <;> omega, ?_⟩
            rw [next_put, next_put, e2]
            rcases hn with hn | hn <;> omega
        · exact (hx2G.put (by omega) (hx2G.wf _ _ gq2) _).put (by omega) (by rw [next_put]; exact hx2G.wf _ _ gd2) _
end Go.Proofs.YtlllbkjiadcloaaDoor.hb
end
