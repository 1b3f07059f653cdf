import Derived.Test.YtlllbkjiadcloaaDoorM3
import Derived.Test.YtlllbkjiadcloaaDoorM4
import Derived.Test.YtlllbkjiadcloaaDoorProg
import Derived.KernelRfl
import Derived.Lib.ValidLaws
/- Lemmas on the program's own code, towards the laws of this folder, part 5. Conditions: as each lemma says. -/
-- Y7
section
/- The reference's Parse. -/
namespace Go.Proofs.YtlllbkjiadcloaaDoor.hb
open Go Go.RowKit Go.Hb
variable {ok : Ok}
set_option maxRecDepth 10000
attribute [local irreducible] LX LG EL STG SOP SGO SGD SAL SRD SEF SEG SLK SCK ES
theorem tmod2 (a : Nat) : (a : Int).tmod 2 = ((a % 2 : Nat) : Int) := rfl
theorem tdiv2 (a : Nat) : (a : Int).tdiv 2 = ((a / 2 : Nat) : Int) := rfl
def bitsOK (L : List Nat) : Prop := (∀ y ∈ L, y < 2) ∧ L.getLast? ≠ some 0
theorem bits_len {L : List Nat} (h : bitsOK L) : nbits (valB 2 L) = L.length := by
  rcases List.eq_nil_or_concat L with rfl | ⟨l, x, rfl⟩
  · rfl
  · rw [List.concat_eq_append] at *
    have hx : x ≠ 0 := by have := h.2; simpa using this
    have hx2 : x < 2 := h.1 x (by simp)
    have hx1 : x = 1 := by omega
    subst hx1
    have := nbits_top (l := l) (x := 1) (e := 1) (fun y hy => h.1 y (by simp [hy])) (by omega)
    rw [show (2 : Nat) ^ 1 = 2 from rfl] at this
    rw [this]
    have h1 : nbits 1 = 1 := by decide
    rw [h1]; simp

-- hornbeamref01.Parse
set_option maxHeartbeats 2000000 in
theorem parseR_ev {s : ByteArray} (hs : s.size ≤ 9223372036854775807) {H : Heap} (hw : H.wf) :
    EvF Tryd.prog okT 127 [.string s, .int .i64 10] H fun v H' => ParseT H' i64V 2 (bl s) v ∧ HX H H' := by
  refine EvF.enter rfl Tryd.func127 (by decide) rfl ?_
  (repeat refine EvC.seq ?_); refine EvC.reg ?_; simp (config := { maxSteps := 2000000 }) (disch := first | omega | rfl) only [sA, initTm, dAlloc, zr149]
  have hx0 := (HX.refl hw).new (some (.row [.bool false, .slice none 0 0] 149))
  obtain ⟨H1, hH1⟩ : ∃ H1, H1 = H.new (some (.row [.bool false, .slice none 0 0] 149)) := ⟨_, rfl⟩
  have hn1 : H1.next = H.next + 1 := by rw [hH1]; rfl
  have hg1 : H1.get H.next = some (.row [.bool false, .slice none 0 0] 149) := by rw [hH1]; exact gt_new_eq
  rw [← hH1] at hx0 ⊢
  (repeat refine EvC.seq ?_); refine EvC.reg ?_; simp (config := { maxSteps := 2000000 }) (disch := first | omega | rfl) only [sA, Nat.reduceEqDiff, reduceCtorEq, if_true, if_false, decide_eq_false, Bool.false_eq_true]
  (repeat refine EvC.seq ?_); refine EvC.condF (by simp (config := { maxSteps := 2000000 }) (disch := first | omega | rfl) only [sA, Nat.reduceEqDiff, reduceCtorEq, if_true, if_false]) ?_; (try refine EvC.skip ?_); (try simp only [thenC_normal, inBlock_normal])
  (repeat refine EvC.seq ?_)
  refine EvC.join (fun st => ∃ tm, st = ⟨tm, [], H1⟩ ∧ tm.get 0 = some (.string s) ∧ tm.get 1 = some (.int .i64 10) ∧ tm.get 4 = some (.pointer (some ⟨H.next, 0, none⟩)) ∧ tm.get 6 = some (.bool (negS (bl s)))) ?_ ?_
  · by_cases h0 : s.size = 0
    · have hb : negS (bl s) = false := by
        have : bl s = [] := List.length_eq_zero_iff.1 (by rw [bl_len]; exact h0)
        rw [this]; rfl
      rw [hb]
      (repeat refine EvC.seq ?_); refine EvC.reg ?_; simp (config := { maxSteps := 2000000 }) (disch := first | omega | rfl) only [sA, Nat.reduceEqDiff, reduceCtorEq, if_true, if_false, ln9, decide_eq_false, Bool.false_eq_true]
      exact ⟨_, rfl, (by first | (simp only [Tr.get_put, reduceCtorEq, if_true, if_false]; rfl) | simp only [Tr.get_put, reduceCtorEq, if_true, if_false]), (by first | (simp only [Tr.get_put, Nat.reduceEqDiff, reduceCtorEq, if_true, if_false]; rfl) | simp only [Tr.get_put, Nat.reduceEqDiff, reduceCtorEq, if_true, if_false]), (by first | (simp only [Tr.get_put, Nat.reduceEqDiff, reduceCtorEq, if_true, if_false]; rfl) | simp only [Tr.get_put, Nat.reduceEqDiff, reduceCtorEq, if_true, if_false]), (by first | (simp only [Tr.get_put, Nat.reduceEqDiff, reduceCtorEq, if_true, if_false]; rfl) | simp only [Tr.get_put, Nat.reduceEqDiff, reduceCtorEq, if_true, if_false])⟩
    · have hb : negS (bl s) = (byteAt s 0 == 45) := by
        have := bl_get s (i := 0) (by omega)
        unfold negS
        rw [List.head?_eq_getElem?, this]; simp
      rw [hb]
      by_cases h45 : byteAt s 0 = 45
      · (repeat refine EvC.seq ?_); refine EvC.reg ?_; simp (config := { maxSteps := 2000000 }) (disch := first | omega | rfl) only [sA, Nat.reduceEqDiff, reduceCtorEq, if_true, if_false, Int.reduceToNat, ln9, decide_eq_true, iy9, ieq_t]
        exact ⟨_, rfl, (by first | (simp only [Tr.get_put, reduceCtorEq, if_true, if_false]; rfl) | simp only [Tr.get_put, reduceCtorEq, if_true, if_false]), (by first | (simp only [Tr.get_put, Nat.reduceEqDiff, reduceCtorEq, if_true, if_false]; rfl) | simp only [Tr.get_put, Nat.reduceEqDiff, reduceCtorEq, if_true, if_false]), (by first | (simp only [Tr.get_put, Nat.reduceEqDiff, reduceCtorEq, if_true, if_false]; rfl) | simp only [Tr.get_put, Nat.reduceEqDiff, reduceCtorEq, if_true, if_false]), by simp only [sA, Nat.reduceEqDiff, reduceCtorEq, if_true, if_false]; first | rfl | simp [h45]⟩
      · (repeat refine EvC.seq ?_); refine EvC.reg ?_; simp (config := { maxSteps := 2000000 }) (disch := first | omega | rfl) only [sA, Nat.reduceEqDiff, reduceCtorEq, if_true, if_false, Int.reduceToNat, ln9, decide_eq_true, iy9, ieq_f]
        exact ⟨_, rfl, (by first | (simp only [Tr.get_put, reduceCtorEq, if_true, if_false]; rfl) | simp only [Tr.get_put, reduceCtorEq, if_true, if_false]), (by first | (simp only [Tr.get_put, Nat.reduceEqDiff, reduceCtorEq, if_true, if_false]; rfl) | simp only [Tr.get_put, Nat.reduceEqDiff, reduceCtorEq, if_true, if_false]), (by first | (simp only [Tr.get_put, Nat.reduceEqDiff, reduceCtorEq, if_true, if_false]; rfl) | simp only [Tr.get_put, Nat.reduceEqDiff, reduceCtorEq, if_true, if_false]), by simp only [sA, Nat.reduceEqDiff, reduceCtorEq, if_true, if_false]; first | rfl | simp [h45]⟩
  rintro st ⟨tm, rfl, g0, g1, g4, g6⟩
  try simp (config := { maxSteps := 2000000 }) (disch := first | omega | rfl) only [thenC_normal]
  (repeat refine EvC.seq ?_); refine EvC.reg ?_; simp (config := { maxSteps := 2000000 }) (disch := first | omega | rfl) only [sA, g6]
  (repeat refine EvC.seq ?_)
  have hbody : bodyS (bl s) = if negS (bl s) then (bl s).tail else bl s := rfl
  refine EvC.join (fun st => ∃ tm s', st = ⟨tm, [], H1⟩ ∧ bl s' = bodyS (bl s) ∧ s'.size ≤ 9223372036854775807 ∧ tm.get 0 = some (.string s') ∧ tm.get 1 = some (.int .i64 10) ∧ tm.get 4 = some (.pointer (some ⟨H.next, 0, none⟩)) ∧ tm.get 6 = some (.bool (negS (bl s)))) ?_ ?_
  · cases hneg : negS (bl s) with
    | true =>
      have h1 : 1 ≤ s.size := by
        rw [← bl_len]
        cases hb : bl s with
        | nil => rw [hb] at hneg; simp [negS] at hneg
        | cons x l => simp
      have hsl : dSl Tryd.prog 9 (.string s) (some (.int .i64 1)) none none H1 = some (.val (.string (s.extract 1 s.size)) H1) := dSl_str_lo (l := 1) us9 h1
      rw [hneg] at g6 hbody
      refine EvC.condT (by first | (simp only [sA, if_true]; rfl) | simp only [sA, if_true]) ?_
      (repeat refine EvC.seq ?_); refine EvC.reg ?_; simp (config := { maxSteps := 2000000 }) (disch := first | omega | rfl) only [sA, Nat.reduceEqDiff, reduceCtorEq, if_true, if_false, g0, hsl]
      refine ⟨_, s.extract 1 s.size, rfl, ?_, ?_, (by first | (simp only [Tr.get_put, reduceCtorEq, if_true, if_false]; rfl) | simp only [Tr.get_put, reduceCtorEq, if_true, if_false]), (by first | (simp only [Tr.get_put, Nat.reduceEqDiff, reduceCtorEq, if_false, g1]; rfl) | simp only [Tr.get_put, Nat.reduceEqDiff, reduceCtorEq, if_false, g1]), (by first | (simp only [Tr.get_put, Nat.reduceEqDiff, reduceCtorEq, if_false, g4]; rfl) | simp only [Tr.get_put, Nat.reduceEqDiff, reduceCtorEq, if_false, g4]), (by first | (simp only [Tr.get_put, Nat.reduceEqDiff, reduceCtorEq, if_false, g6]; rfl) | simp only [Tr.get_put, Nat.reduceEqDiff, reduceCtorEq, if_false, g6])⟩
      · rw [bl_extract, hbody, List.take_of_length_le (by rw [bl_len]; exact Nat.le_refl _)]
        simp
      · have : (s.extract 1 s.size).size ≤ s.size := by rw [ByteArray.size_extract]; omega
        omega
    | false =>
      rw [hneg] at g6 hbody
      refine EvC.condF (by first | (simp only [sA, if_true]; rfl) | simp only [sA, if_true]) (EvC.skip ?_)
      try simp (config := { maxSteps := 2000000 }) (disch := first | omega | rfl) only [thenC_normal]
      exact ⟨_, s, rfl, by rw [hbody]; rfl, hs, (by first | (simp only [Tr.get_put, reduceCtorEq, if_false, g0]; rfl) | simp only [Tr.get_put, reduceCtorEq, if_false, g0]), (by first | (simp only [Tr.get_put, Nat.reduceEqDiff, if_false, g1]; rfl) | simp only [Tr.get_put, Nat.reduceEqDiff, if_false, g1]), (by first | (simp only [Tr.get_put, Nat.reduceEqDiff, if_false, g4]; rfl) | simp only [Tr.get_put, Nat.reduceEqDiff, if_false, g4]), (by first | (simp only [Tr.get_put, Nat.reduceEqDiff, if_false, g6]; rfl) | simp only [Tr.get_put, Nat.reduceEqDiff, if_false, g6])⟩
  clear g0 g1 g4 g6
  rintro st ⟨tm1, s', rfl, hbl, hs', g0, g1, g4, g6⟩
  clear tm
  generalize hneg : negS (bl s) = neg at g6
  by_cases hsz : s'.size = 0
  · repeat' (first | refine EvC.seq ?_ | refine EvC.scope ?_ | refine EvC.block ?_ | (refine EvC.skip ?_) | (refine EvC.exit ?_) | (refine EvC.ret ?_; try simp only [thenC_ret, inBlock_ret]) | (refine EvC.reg ?_; simp (config := { maxSteps := 2000000 }) (disch := first | omega | rfl) only [sA, Nat.reduceEqDiff, Nat.reduceAdd, Value.cells, one, if_true, if_false, layC, bd149, st149, g0, g4, bEqS_nil, decide_eq_true, hg1]) | (refine EvC.condT ?_ ?_; simp (config := { maxSteps := 2000000 }) (disch := first | omega | rfl) only [sA, Nat.reduceEqDiff, if_true, if_false]; refine EvC_go ?_))
    refine leave_cell_two rfl (by first | (simp only [sA, Nat.reduceEqDiff, if_false, g4]; rfl) | simp only []) (by first | (simp only [sA, Nat.reduceAdd, if_true, cutC, ld149]; rfl) | simp only [sA, Nat.reduceAdd, if_true, cutC, ld149]) (by first | (simp only [Tr.get_put, Nat.reduceEqDiff, if_true, if_false]; rfl) | simp only [Tr.get_put, Nat.reduceEqDiff, if_true, if_false]) ⟨.inl ⟨?_, 12, by omega, rfl⟩, hx0.put (Nat.le_refl _) (by omega) _⟩
    have : bodyS (bl s) = [] := by rw [← hbl]; exact List.length_eq_zero_iff.1 (by rw [bl_len]; exact hsz)
    unfold parseD
    rw [if_pos this]
  try simp (config := { maxSteps := 2000000 }) (disch := first | omega | rfl) only [thenC_normal]
  (repeat refine EvC.seq ?_); refine EvC.reg ?_; simp (config := { maxSteps := 2000000 }) (disch := first | omega | rfl) only [sA, if_true, g0, bEqS_nil, decide_eq_false]
  (repeat refine EvC.seq ?_); refine EvC.condF (by simp (config := { maxSteps := 2000000 }) (disch := first | omega | rfl) only [sA, Nat.reduceEqDiff, if_true, if_false]) ?_; (try refine EvC.skip ?_); (try simp only [thenC_normal, inBlock_normal])
  (repeat refine EvC.seq ?_); refine EvC.reg ?_; simp (config := { maxSteps := 2000000 }) (disch := first | omega | rfl) only [sA]
  (repeat refine EvC.seq ?_)
  -- every digit is one
  refine EvC.join (fun st => ∃ tm, st = ⟨tm, [], H1⟩ ∧ (bodyS (bl s)).any (fun x => 10 ≤ digV x) = false ∧ tm.get 0 = some (.string s') ∧ tm.get 1 = some (.int .i64 10) ∧ tm.get 4 = some (.pointer (some ⟨H.next, 0, none⟩)) ∧ tm.get 6 = some (.bool neg)) ?_ ?_
  · refine EvC.block (EvC.loop (fun k st => ∃ tm i, st = ⟨tm, [], H1⟩ ∧ k = s'.size - i ∧ i ≤ s'.size ∧ (∀ x ∈ (bl s').take i, digV x < 10) ∧ tm.get 0 = some (.string s') ∧ tm.get 1 = some (.int .i64 10) ∧ tm.get 4 = some (.pointer (some ⟨H.next, 0, none⟩)) ∧ tm.get 6 = some (.bool neg) ∧ tm.get 7 = some (.int .i64 (i : Nat))) ?_ s'.size _ ?_)
    · rintro k st ⟨tm, i, rfl, hk, hi, hall, f0, f1, f4, f6, f7⟩
      by_cases hlt : i < s'.size
      · have hgi := bl_get s' hlt
        repeat' (first | refine EvC.seq ?_ | refine EvC.scope ?_ | refine EvC.block ?_ | (refine EvC.skip ?_; try simp only [thenC_normal]) | (refine EvC.exit ?_) | (refine EvC.ret ?_; try simp only [thenC_ret, inBlock_ret]) | (refine EvC.reg ?_; simp (config := { maxSteps := 2000000 }) (disch := first | omega | rfl) only [sA, Nat.reduceEqDiff, reduceCtorEq, if_true, if_false, ln9, ix9, cl144, f0, f1, f7, decide_eq_true]) | (refine EvC.condT ?_ ?_; simp (config := { maxSteps := 2000000 }) (disch := first | omega | rfl) only [sA, Nat.reduceEqDiff, if_true, if_false]; refine EvC_go ?_))
        refine (digit_ev (fun _ _ => rfl) (by decide) _ (byteAt_lt s' i) H1).mono ?_
        rintro v H' ⟨rfl, rfl⟩
        by_cases hd : 10 ≤ digV (byteAt s' i)
        · repeat' (first | refine EvC.seq ?_ | refine EvC.scope ?_ | refine EvC.block ?_ | (refine EvC.skip ?_) | (refine EvC.exit ?_) | (refine EvC.ret ?_; try simp only [thenC_ret, inBlock_ret]) | (refine EvC.reg ?_; simp (config := { maxSteps := 2000000 }) (disch := first | omega | rfl) only [sA, Nat.reduceEqDiff, Nat.reduceAdd, Value.cells, one, if_true, if_false, layC, bd149, st149, f4, hg1]) | (refine LX_go ?_; simp (config := { maxSteps := 2000000 }) (disch := first | omega | rfl) only [sA, decide_eq_true]) | (refine EvC.condT ?_ ?_; simp (config := { maxSteps := 2000000 }) (disch := first | omega | rfl) only [sA, Nat.reduceEqDiff, if_true, if_false]; refine EvC_go ?_))
          refine leave_cell_two rfl (by first | (simp only [sA, Nat.reduceEqDiff, if_false, f4]; rfl) | simp only []) (by first | (simp only [sA, Nat.reduceAdd, if_true, cutC, ld149]; rfl) | simp only [sA, Nat.reduceAdd, if_true, cutC, ld149]) (by first | (simp only [Tr.get_put, Nat.reduceEqDiff, if_true, if_false]; rfl) | simp only [Tr.get_put, Nat.reduceEqDiff, if_true, if_false]) ⟨.inl ⟨?_, 12, by omega, rfl⟩, ?_⟩
          · have hm : byteAt s' i ∈ bodyS (bl s) := by rw [← hbl]; exact List.mem_of_getElem? hgi
            unfold parseD
            rw [if_neg (fun h => by rw [h] at hm; cases hm), if_pos (List.any_eq_true.2 ⟨_, hm, decide_eq_true hd⟩)]
          · exact hx0.put (Nat.le_refl _) (by omega) _
        · repeat' (first | refine EvC.seq ?_ | refine EvC.scope ?_ | refine EvC.block ?_ | (refine EvC.skip ?_; try simp only [sA]) | (refine EvC.exit ?_) | (refine EvC.ret ?_; try simp only [thenC_ret, inBlock_ret]) | (refine EvC.reg ?_; simp (config := { maxSteps := 2000000 }) (disch := first | omega | rfl) only [sA, Nat.reduceEqDiff, if_true, if_false, f7, wrap_i64]) | (refine LX_go ?_; simp (config := { maxSteps := 2000000 }) (disch := first | omega | rfl) only [sA, decide_eq_false]) | (refine EvC.condT ?_ ?_; simp (config := { maxSteps := 2000000 }) (disch := first | omega | rfl) only [sA, Nat.reduceEqDiff, if_true, if_false]; refine EvC_go ?_) | (refine EvC.condF ?_ ?_; simp (config := { maxSteps := 2000000 }) (disch := first | omega | rfl) only [sA, Nat.reduceEqDiff, if_true, if_false]; refine EvC_go ?_))
          refine ⟨s'.size - (i + 1), by omega, _, i + 1, rfl, rfl, by omega, fun x hx => ?_, (by first | (simp only [Tr.get_put, reduceCtorEq, if_false, f0]; rfl) | simp only [Tr.get_put, reduceCtorEq, if_false, f0]), (by first | (simp only [Tr.get_put, Nat.reduceEqDiff, if_false, f1]; rfl) | simp only [Tr.get_put, Nat.reduceEqDiff, if_false, f1]), (by first | (simp only [Tr.get_put, Nat.reduceEqDiff, if_false, f4]; rfl) | simp only [Tr.get_put, Nat.reduceEqDiff, if_false, f4]), (by first | (simp only [Tr.get_put, Nat.reduceEqDiff, if_false, f6]; rfl) | simp only [Tr.get_put, Nat.reduceEqDiff, if_false, f6]), (by first | (simp only [sA, Nat.reduceEqDiff, if_true, if_false]; rfl) | simp only [])⟩
          rw [List.take_add_one, hgi] at hx
          rcases List.mem_append.1 hx with h | h
          · exact hall x h
          · simp at h; rw [h]; omega
      · repeat' (first | refine EvC.seq ?_ | refine EvC.scope ?_ | refine EvC.block ?_ | (refine EvC.skip ?_) | (refine EvC.exit ?_; try simp only [sA, if_true]) | (refine EvC.ret ?_; try simp only [thenC_ret, inBlock_ret]) | (refine EvC.reg ?_; simp (config := { maxSteps := 2000000 }) (disch := first | omega | rfl) only [sA, Nat.reduceEqDiff, reduceCtorEq, if_true, if_false, ln9, f0, f7, decide_eq_false]) | (refine EvC.condT ?_ ?_; simp (config := { maxSteps := 2000000 }) (disch := first | omega | rfl) only [sA, Nat.reduceEqDiff, if_true, if_false]; refine EvC_go ?_) | (refine EvC.condF ?_ ?_; simp (config := { maxSteps := 2000000 }) (disch := first | omega | rfl) only [sA, Nat.reduceEqDiff, if_true, if_false]; refine EvC_go ?_))
        refine ⟨_, rfl, ?_, (by first | (simp only [Tr.get_put, reduceCtorEq, if_false, f0]; rfl) | simp only [Tr.get_put, reduceCtorEq, if_false, f0]), (by first | (simp only [Tr.get_put, Nat.reduceEqDiff, if_false, f1]; rfl) | simp only [Tr.get_put, Nat.reduceEqDiff, if_false, f1]), (by first | (simp only [Tr.get_put, Nat.reduceEqDiff, if_false, f4]; rfl) | simp only [Tr.get_put, Nat.reduceEqDiff, if_false, f4]), (by first | (simp only [Tr.get_put, Nat.reduceEqDiff, if_false, f6]; rfl) | simp only [Tr.get_put, Nat.reduceEqDiff, if_false, f6])⟩
        rw [List.any_eq_false]
        intro x hx
        rw [← hbl] at hx
        have := hall x (by rw [List.take_of_length_le (by rw [bl_len]; omega)]; exact hx)
        simp; omega
    · exact ⟨_, 0, rfl, by omega, by omega, by simp, (by first | (simp only [Tr.get_put, reduceCtorEq, if_false, g0]; rfl) | simp only [Tr.get_put, reduceCtorEq, if_false, g0]), (by first | (simp only [Tr.get_put, Nat.reduceEqDiff, if_false, g1]; rfl) | simp only [Tr.get_put, Nat.reduceEqDiff, if_false, g1]), (by first | (simp only [Tr.get_put, Nat.reduceEqDiff, if_false, g4]; rfl) | simp only [Tr.get_put, Nat.reduceEqDiff, if_false, g4]), (by first | (simp only [Tr.get_put, Nat.reduceEqDiff, if_false, g6]; rfl) | simp only [Tr.get_put, Nat.reduceEqDiff, if_false, g6]), (by first | (simp only [sA, Nat.reduceEqDiff, if_true, if_false]; rfl) | simp only [])⟩
  clear g0 g1 g4 g6 tm1
  rintro st ⟨tm, rfl, hany, g0, g1, g4, g6⟩
  have hpd : parseD (bl s) = numD ((bl s').map digV) 0 := by
    have : bodyS (bl s) ≠ [] := by rw [← hbl]; intro h; have := congrArg List.length h; rw [bl_len] at this; exact hsz this
    unfold parseD
    rw [if_neg this, if_neg (by rw [hany]; simp), hbl]
  have hdl : ∀ x ∈ bl s', digV x < 10 := by
    rw [← hbl, List.any_eq_false] at hany
    intro x hx
    have := hany x hx
    simp at this; omega
  repeat' (first | refine EvC.seq ?_ | refine EvC.scope ?_ | refine EvC.block ?_ | (refine EvC.skip ?_) | (refine EvC.exit ?_) | (refine EvC.ret ?_; try simp only [thenC_ret, inBlock_ret]) | (refine EvC.reg ?_; simp (config := { maxSteps := 2000000 }) (disch := first | omega | rfl) only [sA]))
  refine EvC.loop (fun k st => ∃ tm i n L v Hc, st = ⟨tm, [], Hc⟩ ∧ k = s'.size - i ∧ i ≤ s'.size ∧ ((n < big ∧ numD (((bl s').map digV).drop i) n = numD ((bl s').map digV) 0) ∨ (big ≤ n ∧ numD ((bl s').map digV) 0 = none)) ∧ valB 2 L = n ∧ bitsOK L ∧ L.length ≤ 4106 ∧ HX H1 Hc ∧
    RepO Hc 3 1 H1.next (L.map fun x => [i64V x]) v ∧ tm.get 0 = some (.string s') ∧ tm.get 1 = some (.int .i64 10) ∧ tm.get 4 = some (.pointer (some ⟨H.next, 0, none⟩)) ∧ tm.get 6 = some (.bool neg) ∧ tm.get 8 = some v ∧
    tm.get 9 = some (.int .i64 (i : Nat))) ?_ s'.size _ ?_
  · clear g0 g1 g4 g6 tm
    rintro k st ⟨tm, i, n, L, v, Hc, rfl, hk, hi, hnum, hval, hL, hLl, hxc, hrep, g0, g1, g4, g6, g8, g9⟩
    have hbits := bits_len hL
    obtain ⟨a, c, rfl, hLc, hcm⟩ := hrep.slice
    rw [List.length_map] at hLc g8 hrep
    have hcm' : c ≤ 9223372036854775807 := hcm
    by_cases hlt : i < s'.size ∧ L.length ≤ 4096
    · obtain ⟨hlt, hl4⟩ := hlt
      have hgi := bl_get s' hlt
      have hdi : digV (byteAt s' i) < 10 := hdl _ (List.mem_of_getElem? hgi)
      repeat' (first | refine EvC.seq ?_ | refine EvC.scope ?_ | refine EvC.block ?_ | (refine EvC.skip ?_; try simp only [thenC_normal]) | (refine EvC.exit ?_) | (refine EvC.ret ?_; try simp only [thenC_ret, inBlock_ret]) | (refine EvC.reg ?_; simp (config := { maxSteps := 2000000 }) (disch := first | omega | rfl) only [sA, Nat.reduceEqDiff, reduceCtorEq, if_true, if_false, ln9, ix9, cl144, ln46, g0, g8, g9, decide_eq_true]) | (refine EvC.condT ?_ ?_; simp (config := { maxSteps := 2000000 }) (disch := first | omega | rfl) only [sA, Nat.reduceEqDiff, if_true, if_false]; refine EvC_go ?_))
      refine (digit_ev (fun _ _ => rfl) (by decide) _ (byteAt_lt s' i) Hc).mono ?_
      rintro v' H' ⟨rfl, rfl⟩
      repeat' (first | refine EvC.seq ?_ | refine EvC.scope ?_ | refine EvC.block ?_ | (refine EvC.skip ?_) | (refine EvC.exit ?_) | (refine EvC.ret ?_; try simp only [thenC_ret, inBlock_ret]) | (refine EvC.reg ?_; simp (config := { maxSteps := 2000000 }) (disch := first | omega | rfl) only [sA]))
      have hxw := hxc.wf
      refine EvC.loop (fun k' st => ∃ (tm : Tr Value) (k : Nat) (d : List Nat) (cy : Nat) (v : Value) (Hd : Heap), st = ⟨tm, [], Hd⟩ ∧ k' = (L.length - k) * 20 + cy ∧ d.length = k ∧ (∀ y ∈ d, y < 2) ∧ cy < 10 ∧ k + cy ≤ L.length + 10 ∧
        valB 2 d + 2 ^ k * (10 * valB 2 (L.drop k) + cy) = 10 * valB 2 L + digV (byteAt s' i) ∧ HX H' Hd ∧
        RepO Hd 3 1 H'.next (d.map fun x => [i64V x]) v ∧ tm.get 0 = some (.string s') ∧ tm.get 1 = some (.int .i64 10) ∧ tm.get 4 = some (.pointer (some ⟨H.next, 0, none⟩)) ∧ tm.get 6 = some (.bool neg) ∧
        tm.get 8 = some (.slice a L.length c) ∧ tm.get 9 = some (.int .i64 (i : Nat)) ∧ tm.get 10 = some (.int .i64 (cy : Nat)) ∧ tm.get 11 = some v ∧ tm.get 12 = some (.int .i64 (k : Nat))) ?_ ((L.length - 0) * 20 + digV (byteAt s' i)) _ ?_
      · clear g0 g1 g4 g6 g8 g9 tm
        rintro k2 st ⟨tm, k, d, cy, v, Hd, rfl, hk2, hdk, hdb, hcy, hkc, hinv, hxd, hrd, g0, g1, g4, g6, g8, g9, g10, g11, g12⟩
        have hrb := (hrep.keep hxd)
        obtain ⟨-, hrds⟩ := RepO.rds' (vs := L.map i64V) (by rw [List.map_map]; exact hrb)
        by_cases hgo : k < L.length ∨ 0 < cy
        · obtain ⟨x, hx⟩ : ∃ x, x = L.getD k 0 := ⟨_, rfl⟩
          have hxb : x < 2 := by
            rw [hx, List.getD_eq_getElem?_getD]
            cases hg : L[k]? with
            | none => simp
            | some y => exact hL.1 y (List.mem_of_getElem? hg)
          have hinv2 : valB 2 d + 2 ^ d.length * (10 * valB 2 (x :: L.drop (k + 1)) + cy) = 10 * valB 2 L + digV (byteAt s' i) := by
            rw [← hinv, hdk]
            by_cases hkl : k < L.length
            · rw [List.drop_eq_getElem_cons hkl, hx, List.getD_eq_getElem?_getD, List.getElem?_eq_getElem hkl]; rfl
            · rw [List.drop_of_length_le (show L.length ≤ k by omega), List.drop_of_length_le (show L.length ≤ k + 1 by omega), hx, List.getD_eq_getElem?_getD, List.getElem?_eq_none (by omega)]; rfl
          rw [← mul_inv, hdk] at hinv2
          have e1 : ((x : Int) * 10 + (cy : Int)) = ((x * 10 + cy : Nat) : Int) := by omega
          have hgd := bit_ev (fun _ _ => rfl) (by decide) (k := k) hrds (ok := okT)
          rw [← hx] at hgd
          obtain ⟨H5, v5, hap, hrd5, hn5, hx5, hk5⟩ := hrd.push ap46 (y := [i64V ((x * 10 + cy) % 2)]) rfl rfl (by simp [most]; omega) hxd.next
          unfold i64V at hap
          have hq : (x * 10 + cy) / 2 < 10 := by omega
          have hd2 : ((d ++ [(x * 10 + cy) % 2]).map fun x => [i64V x]) = (d.map fun x => [i64V x]) ++ [[i64V ((x * 10 + cy) % 2)]] := by simp
          rcases Nat.lt_or_ge k L.length with hkl | hkl
          all_goals
            repeat' (first | refine EvC.seq ?_ | refine EvC.scope ?_ | refine EvC.block ?_ | (refine EvC.skip ?_; try simp only [thenC_normal]) | (refine EvC.exit ?_) | (refine EvC.ret ?_; try simp only [thenC_ret, inBlock_ret]) | (refine EvC.reg ?_; simp (config := { maxSteps := 2000000 }) (disch := first | omega | rfl) only [sA, Nat.reduceEqDiff, if_true, if_false, ln46, cl145, g8, g10, g12, decide_eq_true, decide_eq_false, Bool.false_eq_true]) | (refine EvC.condT ?_ ?_; simp (config := { maxSteps := 2000000 }) (disch := first | omega | rfl) only [sA, Nat.reduceEqDiff, if_true, if_false]; refine EvC_go ?_))
            refine hgd.mono ?_
            rintro v H2 ⟨rfl, rfl⟩
            repeat' (first | refine EvC.seq ?_ | refine EvC.scope ?_ | refine EvC.block ?_ | (refine EvC.skip ?_) | (refine EvC.exit ?_) | (refine EvC.ret ?_; try simp only [thenC_ret, inBlock_ret]) | (refine EvC.reg ?_; simp (config := { maxSteps := 2000000 }) (disch := first | omega | rfl) only [sA, Nat.reduceEqDiff, Value.cells, one, if_true, if_false, layC, bs46_1, g11, g12, wrap_i64, bRem, bQuo, tmod2, tdiv2, hap]) | (refine LX_go ?_; simp (config := { maxSteps := 2000000 }) (disch := first | omega | rfl) only [sA, Nat.reduceEqDiff, if_true, if_false, g1, g10, e1, wrap_i64]))
            refine ⟨(L.length - (k + 1)) * 20 + (x * 10 + cy) / 2, ?_, _, k + 1, d ++ [(x * 10 + cy) % 2], (x * 10 + cy) / 2, _, _, rfl, rfl, by simp [hdk], ?_, hq, ?_, by rw [← hinv2], hx5 _ hxd (Nat.le_refl _), by rw [hd2]; exact hrd5, (by first | (simp only [Tr.get_put, reduceCtorEq, if_false, g0]; rfl) | simp only [Tr.get_put, reduceCtorEq, if_false, g0]), (by first | (simp only [Tr.get_put, Nat.reduceEqDiff, if_false, g1]; rfl) | simp only [Tr.get_put, Nat.reduceEqDiff, if_false, g1]), (by first | (simp only [Tr.get_put, Nat.reduceEqDiff, if_false, g4]; rfl) | simp only [Tr.get_put, Nat.reduceEqDiff, if_false, g4]), (by first | (simp only [Tr.get_put, Nat.reduceEqDiff, if_false, g6]; rfl) | simp only [Tr.get_put, Nat.reduceEqDiff, if_false, g6]), (by first | (simp only [Tr.get_put, Nat.reduceEqDiff, if_false, g8]; rfl) | simp only [Tr.get_put, Nat.reduceEqDiff, if_false, g8]), (by first | (simp only [Tr.get_put, Nat.reduceEqDiff, if_false, g9]; rfl) | simp only [Tr.get_put, Nat.reduceEqDiff, if_false, g9]), (by first | (simp only [Tr.get_put, Nat.reduceEqDiff, if_true, if_false]; rfl) | simp only [Tr.get_put, Nat.reduceEqDiff, if_true, if_false]), (by first | (simp only [Tr.get_put, Nat.reduceEqDiff, if_true, if_false]; rfl) | simp only [Tr.get_put, Nat.reduceEqDiff, if_true, if_false]), (by first | (simp only [sA, Nat.reduceEqDiff, if_true, if_false]; rfl) | simp only [])⟩
            · first | omega | (have : x = 0 := by rw [hx, List.getD_eq_getElem?_getD, List.getElem?_eq_none (by omega)]; rfl
                               omega)
            · intro y hy
              rcases List.mem_append.1 hy with h | h
              · exact hdb y h
              · simp at h; omega
            · first | omega | (have : x = 0 := by rw [hx, List.getD_eq_getElem?_getD, List.getElem?_eq_none (by omega)]; rfl
                               omega)
        · have hkl : L.length ≤ k := by omega
          have hc0 : cy = 0 := by omega
          subst hc0
          rw [List.drop_of_length_le hkl] at hinv
          simp only [valB, Nat.mul_zero, Nat.add_zero] at hinv
          rw [hval] at hinv
          obtain ⟨a5, c5, rfl, -, -⟩ := hrd.slice
          rw [List.length_map] at g11 hrd
          obtain ⟨-, hrds5⟩ := RepO.rds' (vs := d.map i64V) (by rw [List.map_map]; exact hrd)
          repeat' (first | refine EvC.seq ?_ | refine EvC.scope ?_ | refine EvC.block ?_ | (refine EvC.skip ?_) | (refine EvC.exit ?_; try simp only [sA, Nat.reduceEqDiff, if_true, if_false]) | (refine EvC.ret ?_; try simp only [thenC_ret, inBlock_ret]) | (refine EvC.reg ?_; simp (config := { maxSteps := 2000000 }) (disch := first | omega | rfl) only [sA, Nat.reduceEqDiff, if_true, if_false, ln46, cl146, g8, g10, g11, g12, decide_eq_false, Bool.false_eq_true]) | (refine EvC.condT ?_ ?_; simp (config := { maxSteps := 2000000 }) (disch := first | omega | rfl) only [sA, Nat.reduceEqDiff, if_true, if_false]; refine EvC_go ?_) | (refine EvC.condF ?_ ?_; simp (config := { maxSteps := 2000000 }) (disch := first | omega | rfl) only [sA, Nat.reduceEqDiff, if_true, if_false]; refine EvC_go ?_))
          refine (cut_ev (fun _ _ => rfl) (by decide) hrds5).mono ?_
          rintro v H2 ⟨m, rfl, hm, hz, hn0, rfl⟩
          repeat' (first | refine EvC.seq ?_ | refine EvC.scope ?_ | refine EvC.block ?_ | (refine EvC.skip ?_) | (refine EvC.exit ?_) | (refine EvC.ret ?_; try simp only [thenC_ret, inBlock_ret]) | (refine EvC.reg ?_; simp (config := { maxSteps := 2000000 }) (disch := first | omega | rfl) only [sA, Nat.reduceEqDiff, if_true, if_false, g9, wrap_i64]))
          have hvm : valB 2 (d.take m) = n * 10 + digV (byteAt s' i) := by rw [valB_trim hz, hinv]; omega
          have hnumi : n < big → numD ((bl s').map digV) 0 = if big ≤ n * 10 + digV (byteAt s' i) then none else numD (((bl s').map digV).drop (i + 1)) (n * 10 + digV (byteAt s' i)) := by
            intro hnb
            rcases hnum with ⟨_, hnum⟩ | ⟨h, _⟩
            · rw [← hnum, List.drop_eq_getElem_cons (by simp [bl_len]; omega), numD]
              have : ((bl s').map digV)[i]'(by simp [bl_len]; omega) = digV (byteAt s' i) := by
                apply Option.some.inj
                rw [← List.getElem?_eq_getElem, List.getElem?_map, hgi]; rfl
              rw [this]
            · omega
          have hnb : n < big := by
            rcases Nat.lt_or_ge n big with h | h
            · exact h
            · have := nbits_big.2 h
              rw [← hval, hbits] at this
              omega
          refine ⟨s'.size - (i + 1), by omega, _, i + 1, n * 10 + digV (byteAt s' i), d.take m, _, _, rfl, rfl, by omega, ?_, hvm, ⟨fun y hy => hdb y (List.mem_of_mem_take hy), ?_⟩, by rw [List.length_take]; omega, hxc.trans hxd,
            by rw [List.map_take]; exact (hrd.takeR (m := m) (by simpa using hm)).low hxc.next, (by first | (simp only [Tr.get_put, reduceCtorEq, if_false, g0]; rfl) | simp only [Tr.get_put, reduceCtorEq, if_false, g0]), (by first | (simp only [Tr.get_put, Nat.reduceEqDiff, if_false, g1]; rfl) | simp only [Tr.get_put, Nat.reduceEqDiff, if_false, g1]), (by first | (simp only [Tr.get_put, Nat.reduceEqDiff, if_false, g4]; rfl) | simp only [Tr.get_put, Nat.reduceEqDiff, if_false, g4]), (by first | (simp only [Tr.get_put, Nat.reduceEqDiff, if_false, g6]; rfl) | simp only [Tr.get_put, Nat.reduceEqDiff, if_false, g6]), (by first | (simp only [Tr.get_put, Nat.reduceEqDiff, if_true, if_false]; rfl) | simp only [Tr.get_put, Nat.reduceEqDiff, if_true, if_false]), (by first | (simp only [sA, Nat.reduceEqDiff, if_true, if_false]; rfl) | simp only [])⟩
          · by_cases hb : big ≤ n * 10 + digV (byteAt s' i)
            · exact .inr ⟨hb, by rw [hnumi hnb, if_pos hb]⟩
            · exact .inl ⟨Nat.lt_of_not_le hb, by rw [hnumi hnb, if_neg hb]⟩
          · rw [List.getLast?_eq_getElem?, List.length_take, Nat.min_eq_left hm]
            by_cases h0 : m = 0
            · subst h0; simp
            · rw [List.getElem?_take, if_pos (by omega)]; exact hn0 h0
      · exact ⟨_, 0, [], digV (byteAt s' i), _, _, rfl, rfl, rfl, by simp, hdi, by omega, by simp [valB], HX.refl hxw, RepO.empty, (by first | (simp only [Tr.get_put, reduceCtorEq, if_false, g0]; rfl) | simp only [Tr.get_put, reduceCtorEq, if_false, g0]), (by first | (simp only [Tr.get_put, Nat.reduceEqDiff, if_false, g1]; rfl) | simp only [Tr.get_put, Nat.reduceEqDiff, if_false, g1]), (by first | (simp only [Tr.get_put, Nat.reduceEqDiff, if_false, g4]; rfl) | simp only [Tr.get_put, Nat.reduceEqDiff, if_false, g4]), (by first | (simp only [Tr.get_put, Nat.reduceEqDiff, if_false, g6]; rfl) | simp only [Tr.get_put, Nat.reduceEqDiff, if_false, g6]), (by first | (simp only [Tr.get_put, Nat.reduceEqDiff, if_false, g8]; rfl) | simp only [Tr.get_put, Nat.reduceEqDiff, if_false, g8]), (by first | (simp only [Tr.get_put, Nat.reduceEqDiff, if_false, g9]; rfl) | simp only [Tr.get_put, Nat.reduceEqDiff, if_false, g9]), (by first | (simp only [Tr.get_put, Nat.reduceEqDiff, if_true, if_false]; rfl) | simp only [Tr.get_put, Nat.reduceEqDiff, if_true, if_false]), (by first | (simp only [Tr.get_put, Nat.reduceEqDiff, if_true, if_false]; rfl) | simp only [Tr.get_put, Nat.reduceEqDiff, if_true, if_false]), (by first | (simp only [sA, Nat.reduceEqDiff, if_true, if_false]; rfl) | simp only [])⟩
    · by_cases hl4 : L.length ≤ 4096
      · have hi' : i = s'.size := by omega
        have hnb : n < big := by
          rcases Nat.lt_or_ge n big with h | h
          · exact h
          · have := nbits_big.2 h
            rw [← hval, hbits] at this
            omega
        have hnn : numD ((bl s').map digV) 0 = some n := by
          rcases hnum with ⟨_, hnum⟩ | ⟨h, _⟩
          · rw [← hnum, List.drop_of_length_le (by simp [bl_len]; omega), numD]
          · omega
        obtain ⟨-, hr⟩ := RepO.rds' (vs := L.map i64V) (by rw [List.map_map]; exact hrep)
        repeat' (first | refine EvC.seq ?_ | refine EvC.scope ?_ | refine EvC.block ?_ | (refine EvC.skip ?_; try simp only [thenC_normal]) | (refine EvC.exit ?_; try simp only [sA, if_true]) | (refine EvC.ret ?_; try simp only [thenC_ret, inBlock_ret]) | (refine EvC.reg ?_; simp (config := { maxSteps := 2000000 }) (disch := first | omega | rfl) only [sA, Nat.reduceEqDiff, reduceCtorEq, if_true, if_false, ln9, ln46, cl147, g0, g9, g6, g8, decide_eq_false, Bool.false_eq_true]) | (refine EvC.condT ?_ ?_; simp (config := { maxSteps := 2000000 }) (disch := first | omega | rfl) only [sA, Nat.reduceEqDiff, if_true, if_false]; refine EvC_go ?_) | (refine EvC.condF ?_ ?_; simp (config := { maxSteps := 2000000 }) (disch := first | omega | rfl) only [sA, Nat.reduceEqDiff, if_true, if_false]; refine EvC_go ?_))
        refine (laidR_ev hr hxc.wf).mono ?_
        rintro v H2 ⟨m, rfl, hm, hz, hn0, hx2⟩
        have hg2 : H2.get H.next = some (.row [.bool false, .slice none 0 0] 149) := by rw [(hxc.trans hx2).keep _ (by omega)]; exact hg1
        repeat' (first | refine EvC.seq ?_ | refine EvC.scope ?_ | refine EvC.block ?_ | (refine EvC.skip ?_) | (refine EvC.exit ?_) | (refine EvC.ret ?_; try simp only [thenC_ret, inBlock_ret]) | (refine LX_go ?_; simp (config := { maxSteps := 2000000 }) (disch := first | omega | rfl) only [sA, Nat.reduceAdd, one, if_true, st149, g4, hg2]))
        have hx3 := hxc.trans hx2
        have hm' : m = L.length := by
          rcases Nat.lt_or_ge m L.length with h | h
          · have := hz (L[L.length - 1]'(by omega)) (List.mem_drop_iff_getElem.2 ⟨L.length - 1 - m, by omega, by congr 1; omega⟩)
            have h2 := hL.2
            rw [List.getLast?_eq_getElem?, List.getElem?_eq_getElem (by omega), this] at h2
            exact absurd rfl h2
          · omega
        subst hm'
        refine leave_cell_two rfl (by first | (simp only [sA, Nat.reduceEqDiff, if_false, g4]; rfl) | simp only []) (by first | (simp only [sA, Nat.reduceAdd, if_true, cutC, ld149]; rfl) | simp only []) (by first | (simp only [sA, Nat.reduceEqDiff, if_true, if_false]; rfl) | simp only []) ⟨.inr ⟨n, L, a, c, by rw [hpd, hnn], by rw [hneg], ?_, hL.1, hval, hL.2, hl4⟩, (hx0.trans hx3).put (Nat.le_refl _) (by have := hx3.next; omega) _⟩
        have h3 := (hrep.keep hx2).putlo (i := H.next) (by omega) (some (.row [.bool (neg && decide (0 < L.length)), .slice a L.length c] 149))
        exact (RepO.rds' (vs := L.map i64V) (by rw [List.map_map]; exact h3)).2
      · have hnn : numD ((bl s').map digV) 0 = none := by
          have hb : big ≤ n := by
            rw [← nbits_big, ← hval, hbits]; omega
          rcases hnum with ⟨h, _⟩ | ⟨_, h⟩
          · omega
          · exact h
        have hg2 : Hc.get H.next = some (.row [.bool false, .slice none 0 0] 149) := by rw [hxc.keep _ (by omega)]; exact hg1
        by_cases hlt' : i < s'.size
        all_goals
          repeat' (first | refine EvC.seq ?_ | refine EvC.scope ?_ | refine EvC.block ?_ | (refine EvC.skip ?_) | (refine EvC.exit ?_; try simp only [sA, if_true]) | (refine EvC.ret ?_; try simp only [thenC_ret, inBlock_ret]) | (refine EvC.reg ?_; simp (config := { maxSteps := 2000000 }) (disch := first | omega | rfl) only [sA, Nat.reduceEqDiff, Nat.reduceAdd, Value.cells, one, reduceCtorEq, if_true, if_false, layC, bd149, st149, ln9, ln46, g0, g4, g9, g8, decide_eq_true, decide_eq_false, Bool.false_eq_true, hg2]) | (refine EvC.condT ?_ ?_; simp (config := { maxSteps := 2000000 }) (disch := first | omega | rfl) only [sA, Nat.reduceEqDiff, if_true, if_false]; refine EvC_go ?_) | (refine EvC.condF ?_ ?_; simp (config := { maxSteps := 2000000 }) (disch := first | omega | rfl) only [sA, Nat.reduceEqDiff, if_true, if_false]; refine EvC_go ?_))
          refine leave_cell_two rfl (by first | (simp only [sA, Nat.reduceEqDiff, if_false, g4]; rfl) | simp only []) (by first | (simp only [sA, Nat.reduceAdd, if_true, cutC, ld149]; rfl) | simp only [sA, Nat.reduceAdd, if_true, cutC, ld149]) (by first | (simp only [Tr.get_put, Nat.reduceEqDiff, if_true, if_false]; rfl) | simp only [Tr.get_put, Nat.reduceEqDiff, if_true, if_false]) ⟨.inl ⟨?_, 10, by omega, rfl⟩, (hx0.trans hxc).put (Nat.le_refl _) (by have := hxc.next; omega) _⟩
          rw [hpd, hnn]
  · exact ⟨_, 0, 0, [], _, _, rfl, by omega, by omega, .inl ⟨by rw [big_eq]; exact Nat.two_pow_pos _, by simp⟩, rfl, ⟨by simp, by simp⟩, by simp, HX.refl hx0.wf, RepO.empty, (by first | (simp only [Tr.get_put, reduceCtorEq, if_false, g0]; rfl) | simp only [Tr.get_put, reduceCtorEq, if_false, g0]), (by first | (simp only [Tr.get_put, Nat.reduceEqDiff, if_false, g1]; rfl) | simp only [Tr.get_put, Nat.reduceEqDiff, if_false, g1]), (by first | (simp only [Tr.get_put, Nat.reduceEqDiff, if_false, g4]; rfl) | simp only [Tr.get_put, Nat.reduceEqDiff, if_false, g4]), (by first | (simp only [Tr.get_put, Nat.reduceEqDiff, if_false, g6]; rfl) | simp only [Tr.get_put, Nat.reduceEqDiff, if_false, g6]), (by first | (simp only [Tr.get_put, Nat.reduceEqDiff, if_true, if_false]; rfl) | simp only [Tr.get_put, Nat.reduceEqDiff, if_true, if_false]), (by first | (simp only [sA, Nat.reduceEqDiff, if_true, if_false]; rfl) | simp only [])⟩
end Go.Proofs.YtlllbkjiadcloaaDoor.hb
end

-- Y8
section
/- The reference's Text. -/
namespace Go.Proofs.YtlllbkjiadcloaaDoor.hb
open Go Go.RowKit Go.Hb
variable {ok : Ok}
set_option maxRecDepth 10000
attribute [local irreducible] LX LG EL STG SOP SGO SGD SAL SRD SEF SEG SLK SCK ES
theorem RdS_same {H H2 : Heap} {vs : List Value} {a : Option Addr} {c : Nat} (h : RdS H vs a c) (hg : vs ≠ [] → ∀ b o s, a = some ⟨b, o, s⟩ → H2.get b = H.get b) : RdS H2 vs a c :=
  ⟨h.len, h.cap, fun i v hv => by
    obtain ⟨b, o, ha, hl⟩ := h.get i v hv
    refine ⟨b, o, ha, ?_⟩
    have := hg (fun h0 => by rw [h0] at hv; simp at hv) b o none ha
    rw [← hl]
    unfold Heap.load Heap.cells
    rw [this]⟩
theorem rds_lt {H : Heap} {vs : List Value} {a : Option Addr} {c : Nat} (h : RdS H vs a c) (hw : H.wf) (h0 : vs ≠ []) {ad : Addr} (ha : a = some ad) : ad.block < H.next := by
  obtain ⟨v, r, rfl⟩ := List.exists_cons_of_ne_nil h0
  obtain ⟨b', o', ha', hl⟩ := h.get 0 v rfl
  rw [ha] at ha'
  cases ha'
  unfold Heap.load Heap.cells at hl
  cases hg : H.get b' with
  | none => simp only [hg] at hl; cases hl
  | some B => exact hw b' B hg
theorem chars_back : ∀ l : List Nat, (∀ y ∈ l, y < 256) → l.map (UInt8.toNat ∘ UInt8.ofNat) = l := by
  intro l hl
  conv => rhs; rw [← List.map_id l]
  apply List.map_congr_left
  intro y hy
  have := hl y hy
  simp [UInt8.toNat_ofNat]
  omega

-- hornbeamref01.Text
set_option maxHeartbeats 4000000 in
theorem textR_ev {L : List Nat} {neg : Bool} {a : Option Addr} {c n : Nat} {H : Heap} (hw : H.wf) (r : RdS H (L.map i64V) a c) (hL : ∀ y ∈ L, y < 2) (hlen : L.length ≤ 4096) (hlast : L.getLast? ≠ some 0) (hval : valB 2 L = n) (hn : n < big) :
    EvF Tryd.prog okT 128 [.agg ⟨[.bool neg, .slice a L.length c]⟩, .int .i64 10] H fun v H' => (∃ t : ByteArray, v = .string t ∧ bl t = textD neg n) ∧ HX H H' := by
  refine EvF.enter rfl Tryd.func128 (by decide) rfl ?_
  (repeat refine EvC.seq ?_); refine EvC.reg ?_; simp (config := { maxSteps := 2000000 }) (disch := first | omega | rfl) only [sA, initTm, dBox, Value.cells, one, reduceCtorEq, if_true, if_false]
  have hx0 := (HX.refl hw).new (some (.row [.bool neg, .slice a L.length c] 149))
  obtain ⟨H1, hH1⟩ : ∃ H1, H1 = H.new (some (.row [.bool neg, .slice a L.length c] 149)) := ⟨_, rfl⟩
  have hlb : H1.load ⟨H.next, 0, none⟩ 1 = some [.bool neg] := by rw [hH1]; exact ld_new_eq
  have hls : H1.load ⟨H.next, 1, none⟩ 1 = some [.slice a L.length c] := by rw [hH1]; exact ld_new_eq
  rw [← hH1] at hx0 ⊢
  have hw1 := hx0.wf
  by_cases h0 : L.length = 0
  · have hM : L = [] := List.length_eq_zero_iff.1 h0
    subst hM
    repeat' (first | refine EvC.seq ?_ | refine EvC.scope ?_ | refine EvC.block ?_ | (refine EvC.skip ?_) | (refine EvC.exit ?_) | (refine EvC.ret ?_; try simp only [thenC_ret, inBlock_ret]) | (refine EvC.reg ?_; simp (config := { maxSteps := 2000000 }) (disch := first | omega | rfl) only [sA, Nat.reduceEqDiff, reduceCtorEq, if_true, if_false, fa149_1, ld46, ln46, hls, ieq_t]) | (refine EvC.condT ?_ ?_; simp (config := { maxSteps := 2000000 }) (disch := first | omega | rfl) only [sA, Nat.reduceEqDiff, reduceCtorEq, if_true, if_false]; refine EvC_go ?_))
    refine leave_one rfl (by first | (simp only [sA, Nat.reduceEqDiff, reduceCtorEq, if_true, if_false]; rfl) | simp only []) ⟨⟨_, rfl, ?_⟩, hx0⟩
    rw [← hval]; rfl
  have hnz := valB_pos (B := 2) (by omega) (fun h => h0 (by rw [h]; rfl)) hlast
  rw [hval] at hnz
  have hLc : L.length ≤ c := by simpa using r.len
  repeat' (first | refine EvC.seq ?_ | refine EvC.scope ?_ | refine EvC.block ?_ | (refine EvC.skip ?_; try simp only [thenC_normal]) | (refine EvC.exit ?_) | (refine EvC.ret ?_; try simp only [thenC_ret, inBlock_ret]) | (refine EvC.reg ?_; simp (config := { maxSteps := 2000000 }) (disch := first | omega | rfl) only [sA, Nat.reduceEqDiff, reduceCtorEq, if_true, if_false, fa149_1, ld46, ln46, hls, ieq_f]) | (refine EvC.condT ?_ ?_; simp (config := { maxSteps := 2000000 }) (disch := first | omega | rfl) only [sA, Nat.reduceEqDiff, reduceCtorEq, if_true, if_false]; refine EvC_go ?_) | (refine EvC.condF ?_ ?_; simp (config := { maxSteps := 2000000 }) (disch := first | omega | rfl) only [sA, Nat.reduceEqDiff, reduceCtorEq, if_true, if_false]; refine EvC_go ?_))
  have hr1 := r.keep hx0 hw
  refine EvC.loop (fun k st => ∃ (tm : Tr Value) (M od : List Nat) (a : Option Addr) (c : Nat) (v5 : Value) (Hc : Heap), st = ⟨tm, [], Hc⟩ ∧ k = valB 2 M ∧ (∀ y ∈ M, y < 2) ∧ M.length ≤ 4096 ∧ M.getLast? ≠ some 0 ∧ decR n = od ++ decR (valB 2 M) ∧ (M ≠ [] → valB 2 M * 10 ^ od.length ≤ n) ∧ od.length ≤ 4096 ∧
      (∀ y ∈ od, y < 10) ∧ HX H1 Hc ∧ RdS Hc (M.map i64V) a c ∧ (M ≠ [] → ∀ b o s, a = some ⟨b, o, s⟩ → b < H1.next ∨ ∃ cs, Hc.get b = some (.row cs 3)) ∧ RepO Hc 5 1 H1.next (od.map fun x => [u8V (48 + x)]) v5 ∧ tm.get 1 = some (.int .i64 10) ∧ tm.get 2 = some (.pointer (some ⟨H.next, 0, none⟩)) ∧
      tm.get 5 = some v5 ∧ tm.get 6 = some (.slice a M.length c)) ?_ (valB 2 L) _ ?_
  · clear hr1
    rintro k st ⟨tm, M, od, a, c, v5, Hc, rfl, rfl, hMb, hMl, hMn, hdec, hle, hol, hod, hxc, hrM, hra, hr7, g1, g2, g7, g6⟩
    have hMc : M.length ≤ c := by simpa using hrM.len
    by_cases hM0 : M = []
    · subst hM0
      have hlbc := hxc.load hw1 hlb
      have hdec' : decR n = od := by rw [hdec]; simp [valB, decR_zero]
      repeat' (first | refine EvC.seq ?_ | refine EvC.scope ?_ | refine EvC.block ?_ | (refine EvC.skip ?_) | (refine EvC.exit ?_; try simp only [sA, if_true]) | (refine EvC.ret ?_; try simp only [thenC_ret, inBlock_ret]) | (refine EvC.reg ?_; simp (config := { maxSteps := 2000000 }) (disch := first | omega | rfl) only [sA, Nat.reduceEqDiff, if_true, if_false, ln46, fa149_0, ld4, g2, g6, hlbc, decide_eq_false]) | (refine EvC.condT ?_ ?_; simp (config := { maxSteps := 2000000 }) (disch := first | omega | rfl) only [sA, Nat.reduceEqDiff, if_true, if_false]; refine EvC_go ?_) | (refine EvC.condF ?_ ?_; simp (config := { maxSteps := 2000000 }) (disch := first | omega | rfl) only [sA, Nat.reduceEqDiff, if_true, if_false]; refine EvC_go ?_))
      refine EvC.join (fun st => ∃ tm o v Hd, st = ⟨tm, [], Hd⟩ ∧ o = (od.map fun x => 48 + x) ++ (if neg then [45] else []) ∧ HX H1 Hd ∧ RepO Hd 5 1 H1.next (o.map fun x => [u8V x]) v ∧ tm.get 5 = some v) ?_ ?_
      · cases neg with
        | true =>
          obtain ⟨H5, v5, hap, hr7b, -, hx5, -⟩ := hr7.push ap164 (y := [u8V 45]) rfl rfl (by simp [most]; omega) hxc.next
          have h45 : u8V 45 = .int .u8 45 := rfl
          rw [h45] at hap
          refine EvC.condT (by first | (simp only [sA, Nat.reduceEqDiff, if_true, if_false]; rfl) | simp only [sA, Nat.reduceEqDiff, if_true, if_false]) ?_
          repeat' (first | refine EvC.seq ?_ | refine EvC.scope ?_ | refine EvC.block ?_ | (refine EvC.skip ?_) | (refine EvC.exit ?_) | (refine EvC.ret ?_; try simp only [thenC_ret, inBlock_ret]) | (refine EvC.reg ?_; simp (config := { maxSteps := 2000000 }) (disch := first | omega | rfl) only [sA, Nat.reduceEqDiff, Value.cells, one, if_true, if_false, layC, bs164_1, g7, hap]))
          refine ⟨_, _, _, _, rfl, rfl, hx5 _ hxc (Nat.le_refl _), ?_, (by first | (simp only [sA, Nat.reduceEqDiff, if_true, if_false]; rfl) | simp only [])⟩
          first | (rw [List.map_append, List.map_map]; exact hr7b) | (simp only [if_true, List.map_append, List.map_map]; exact hr7b)
        | false =>
          refine EvC.condF (by first | (simp only [sA, Nat.reduceEqDiff, if_true, if_false]; rfl) | simp only [sA, Nat.reduceEqDiff, if_true, if_false]) ?_
          repeat' (first | refine EvC.seq ?_ | refine EvC.scope ?_ | refine EvC.block ?_ | (refine EvC.skip ?_; try simp only [sA, reduceCtorEq, if_false]) | (refine EvC.exit ?_) | (refine EvC.ret ?_; try simp only [thenC_ret, inBlock_ret]))
          exact ⟨_, _, _, _, rfl, rfl, hxc, by first | (rw [List.append_nil, List.map_map]; exact hr7) | (simp only [Bool.false_eq_true, if_false, List.append_nil, List.map_map]; exact hr7), (by first | (simp only [Tr.get_put, Nat.reduceEqDiff, if_false, g7]; rfl) | simp only [Tr.get_put, Nat.reduceEqDiff, if_false, g7])⟩
      clear g1 g2 g6 g7 hr7 hxc hlbc tm
      rintro st ⟨tm, o, v, Hd, rfl, ho', hxc, hr7, g7⟩
      have hob : ∀ y ∈ o, y < 256 := by
        intro y hy
        rw [ho'] at hy
        rcases List.mem_append.1 hy with h | h
        · obtain ⟨x, hx, rfl⟩ := List.mem_map.1 h
          have := hod x hx; omega
        · cases neg <;> simp at h
          omega
      have hon : 0 < o.length := by
        have : od ≠ [] := by rw [← hdec', decR_pos hnz]; simp
        rw [ho', List.length_append, List.length_map]
        have := List.length_pos_iff.2 this
        omega
      have hol2 : o.length ≤ 4097 := by
        rw [ho', List.length_append, List.length_map]
        cases neg <;> simp <;> omega
      have htx : textD neg n = o.reverse := by
        unfold textD
        rw [if_neg hnz, hdec', ho']
      obtain ⟨b7, c7, ho7, rfl⟩ := hr7.own (by intro h; rw [List.map_eq_nil_iff] at h; rw [h] at hon; simp at hon)
      rw [List.length_map] at g7
      repeat' (first | refine EvC.seq ?_ | refine EvC.scope ?_ | refine EvC.block ?_ | (refine EvC.skip ?_) | (refine EvC.exit ?_) | (refine EvC.ret ?_; try simp only [thenC_ret, inBlock_ret]) | (refine EvC.reg ?_; simp (config := { maxSteps := 2000000 }) (disch := first | omega | rfl) only [sA, Nat.reduceEqDiff, if_true, if_false, ln164, g7, wrap_i64]))
      have hxw := hxc.wf
      refine EvC.loop (fun k st => ∃ (tm : Tr Value) (v : Value) (He : Heap), st = ⟨tm, [], He⟩ ∧ k ≤ o.length ∧ HX Hd He ∧ RepO He 5 1 Hd.next ((o.drop k).reverse.map fun x => [u8V x]) v ∧ tm.get 5 = some (.slice (some ⟨b7, 0, none⟩) o.length c7) ∧ tm.get 10 = some v ∧ tm.get 11 = some (.int .i64 ((k : Int) - 1))) ?_ o.length _ ?_
      · clear g7 tm
        rintro k st ⟨tm, v, He, rfl, hk, hxe, hre, g5, g10, g11⟩
        have ho8 := ho7.keep hxe
        cases k with
        | zero =>
          rw [List.drop_zero] at hre
          obtain ⟨b9, c9, ho9, rfl⟩ := hre.own (by intro h; rw [List.map_eq_nil_iff, List.reverse_eq_nil_iff] at h; rw [h] at hon; simp at hon)
          rw [List.length_map, List.length_reverse] at g10
          have hrd : RdS He (o.reverse.map u8V) (some ⟨b9, 0, none⟩) c9 := OwnS.rds (by rw [List.map_map]; exact ho9)
          obtain ⟨b8, o8, h8, hload⟩ := hrd.all (by intro h; rw [List.map_eq_nil_iff, List.reverse_eq_nil_iff] at h; rw [h] at hon; simp at hon)
          cases h8
          rw [List.length_map, List.length_reverse] at hload
          obtain ⟨t, hdb, ht⟩ := dbytes_nat (c := c9) (l := o.reverse) hload (by omega)
          have hcon := dCon_bytes (P := Tryd.prog) (src := 164) (dst := 9) (e := 5) (by kernel_rfl) (by kernel_rfl) (by kernel_rfl) hdb
          repeat' (first | refine EvC.seq ?_ | refine EvC.scope ?_ | refine EvC.block ?_ | (refine EvC.skip ?_) | (refine EvC.exit ?_; try simp only [sA, if_true]) | (refine EvC.ret ?_; try simp only [thenC_ret, inBlock_ret]) | (refine EvC.reg ?_; simp (config := { maxSteps := 2000000 }) (disch := first | omega | rfl) only [sA, Nat.reduceEqDiff, if_true, if_false, g10, g11, hcon, decide_eq_false]) | (refine EvC.condT ?_ ?_; simp (config := { maxSteps := 2000000 }) (disch := first | omega | rfl) only [sA, Nat.reduceEqDiff, if_true, if_false]; refine EvC_go ?_) | (refine EvC.condF ?_ ?_; simp (config := { maxSteps := 2000000 }) (disch := first | omega | rfl) only [sA, Nat.reduceEqDiff, if_true, if_false]; refine EvC_go ?_))
          refine leave_one rfl (by first | (simp only [Tr.get_put, Nat.reduceEqDiff, if_true, if_false]; rfl) | simp only [Tr.get_put, Nat.reduceEqDiff, if_true, if_false]) ⟨⟨t, rfl, ?_⟩, (hx0.trans hxc).trans hxe⟩
          unfold bl
          rw [ht, List.map_map, htx]
          exact chars_back _ fun y hy => hob y (List.mem_reverse.1 hy)
        | succ j =>
          have e0 : (((j + 1 : Nat) : Int) - 1) = (j : Int) := by omega
          rw [e0] at g11
          have hx : o[j]? = some o[j] := List.getElem?_eq_getElem (by omega)
          have hdr : o.drop j = o[j] :: o.drop (j + 1) := List.drop_eq_getElem_cons (by omega)
          generalize o[j] = x at hx hdr
          have hld := ho8.load (i := j) (x := [u8V x]) (by rw [List.getElem?_map, hx]; rfl)
          rw [Nat.mul_one] at hld
          obtain ⟨H5, v5, hap, hre5, -, hx5, -⟩ := hre.push ap164 (y := [u8V x]) rfl rfl (by simp [most]; omega) hxe.next
          unfold u8V at hap hld
          repeat' (first | refine EvC.seq ?_ | refine EvC.scope ?_ | refine EvC.block ?_ | (refine EvC.skip ?_; try simp only [thenC_normal]) | (refine EvC.exit ?_) | (refine EvC.ret ?_; try simp only [thenC_ret, inBlock_ret]) | (refine EvC.reg ?_; simp (config := { maxSteps := 2000000 }) (disch := first | omega | rfl) only [sA, Nat.reduceEqDiff, Value.cells, one, if_true, if_false, layC, bs164_1, ia164, ld5, g5, g10, g11, hld, hap, decide_eq_true, wrap_i64]) | (refine EvC.condT ?_ ?_; simp (config := { maxSteps := 2000000 }) (disch := first | omega | rfl) only [sA, Nat.reduceEqDiff, if_true, if_false]; refine EvC_go ?_))
          refine ⟨j, by omega, _, _, _, rfl, by omega, hx5 _ hxe (Nat.le_refl _), ?_, (by first | (simp only [Tr.get_put, Nat.reduceEqDiff, if_false, g5]; rfl) | simp only [Tr.get_put, Nat.reduceEqDiff, if_false, g5]), (by first | (simp only [sA, Nat.reduceEqDiff, if_true, if_false]; rfl) | simp only []), (by first | (simp only [Tr.get_put, Nat.reduceEqDiff, if_true, if_false]; rfl) | simp only [Tr.get_put, Nat.reduceEqDiff, if_true, if_false])⟩
          have : (o.drop j).reverse.map (fun x => [u8V x]) = (o.drop (j + 1)).reverse.map (fun x => [u8V x]) ++ [[u8V x]] := by rw [hdr]; simp
          rw [this]; exact hre5
      · exact ⟨_, _, _, rfl, Nat.le_refl _, HX.refl hxw, by rw [List.drop_length]; exact RepO.empty, (by first | (simp only [Tr.get_put, Nat.reduceEqDiff, if_false, g7]; rfl) | simp only [Tr.get_put, Nat.reduceEqDiff, if_false, g7]), (by first | (simp only [Tr.get_put, Nat.reduceEqDiff, if_true, if_false]; rfl) | simp only [Tr.get_put, Nat.reduceEqDiff, if_true, if_false]), (by first | (simp only [Tr.get_put, Nat.reduceEqDiff, if_true, if_false]; rfl) | simp only [Tr.get_put, Nat.reduceEqDiff, if_true, if_false])⟩
    · have hM1 : 0 < M.length := List.length_pos_iff.2 hM0
      have hvM := valB_pos (B := 2) (by omega) hM0 hMn
      have hmost : M.length ≤ most := by simp [most]; omega
      have hmax : M.length ≤ maxLen := Nat.le_trans hMl (by simp [maxLen])
      repeat' (first | refine EvC.seq ?_ | refine EvC.scope ?_ | refine EvC.block ?_ | (refine EvC.skip ?_; try simp only [thenC_normal]) | (refine EvC.exit ?_) | (refine EvC.ret ?_; try simp only [thenC_ret, inBlock_ret]) | (refine EvC.reg ?_; simp (config := { maxSteps := 2000000 }) (disch := first | omega | rfl) only [sA, Nat.reduceEqDiff, if_true, if_false, ln46, g6, decide_eq_true, wrap_i64, dMk_nat mk46 hmost, repL_one]) | (refine EvC.condT ?_ ?_; simp (config := { maxSteps := 2000000 }) (disch := first | omega | rfl) only [sA, Nat.reduceEqDiff, if_true, if_false]; refine EvC_go ?_))
      have hxq := (HX.refl hxc.wf).new (some (.row (List.replicate M.length (Value.int .i64 0)) 3))
      have hoq := OwnS.ones (H := Hc.new (some (.row (List.replicate M.length (Value.int .i64 0)) 3))) (base := Hc.next) (c := M.length) gt_new_eq (Nat.le_refl _) (Nat.lt_succ_self _) (by simp) hmax (by simp [one])
      refine EvC.loop (fun k st => ∃ (tm : Tr Value) (q : List Nat) (r : Nat) (Hd : Heap), st = ⟨tm, [], Hd⟩ ∧ k ≤ M.length ∧ q.length = M.length - k ∧ (∀ y ∈ q, y < 2) ∧ r < 10 ∧ valB 2 (M.take k) + 2 ^ k * (10 * valB 2 q + r) = valB 2 M ∧ HX Hc Hd ∧
        OwnS Hd 3 1 Hc.next ((List.replicate k 0 ++ q).map fun x => [i64V x]) Hc.next M.length ∧ tm.get 1 = some (.int .i64 10) ∧ tm.get 2 = some (.pointer (some ⟨H.next, 0, none⟩)) ∧
        tm.get 5 = some v5 ∧ tm.get 6 = some (.slice a M.length c) ∧ tm.get 7 = some (.int .i64 (r : Nat)) ∧ tm.get 8 = some (.slice (some ⟨Hc.next, 0, none⟩) M.length M.length) ∧ tm.get 9 = some (.int .i64 ((k : Int) - 1))) ?_ M.length _ ?_
      · clear g1 g2 g6 g7 tm
        rintro k st ⟨tm, q, r, Hd, rfl, hk, hq, hqb, hr, hinv, hxd, hoq, g1, g2, g5, g6, g7, g8, g9⟩
        cases k with
        | zero =>
          rw [List.replicate_zero, List.nil_append] at hoq
          simp only [List.take_zero, valB, Nat.pow_zero, Nat.one_mul, Nat.zero_add] at hinv
          have hqM : q.length = M.length := by omega
          repeat' (first | refine EvC.seq ?_ | refine EvC.scope ?_ | refine EvC.block ?_ | (refine EvC.skip ?_) | (refine EvC.exit ?_; try simp only [sA, Nat.reduceEqDiff, reduceCtorEq, if_true, if_false]) | (refine EvC.ret ?_; try simp only [thenC_ret, inBlock_ret]) | (refine EvC.reg ?_; simp (config := { maxSteps := 2000000 }) (disch := first | omega | rfl) only [sA, Nat.reduceEqDiff, if_true, if_false, cl146, g8, g9, decide_eq_false]) | (refine EvC.condT ?_ ?_; simp (config := { maxSteps := 2000000 }) (disch := first | omega | rfl) only [sA, Nat.reduceEqDiff, if_true, if_false]; refine EvC_go ?_) | (refine EvC.condF ?_ ?_; simp (config := { maxSteps := 2000000 }) (disch := first | omega | rfl) only [sA, Nat.reduceEqDiff, if_true, if_false]; refine EvC_go ?_))
          have hrq : RdS Hd (q.map i64V) (some ⟨Hc.next, 0, none⟩) M.length := OwnS.rds (by rw [List.map_map]; exact hoq)
          have hct := cut_ev (ok := okT) (fun _ _ => rfl) (by decide) hrq
          rw [hqM] at hct
          refine hct.mono ?_
          rintro v H' ⟨m, rfl, hm, hz, hn0, rfl⟩
          have hmost2 : od.length + 1 ≤ most := by
            have := few_digits (e := mostBits) hvM (hle hM0) (by rw [← big_eq]; exact hn)
            simp [mostBits] at this
            simp [most]; omega
          have hr7d := hr7.keep hxd
          have hx1d := hxc.trans hxd
          obtain ⟨H5, v5', hap, hr7b, hn5, hx5, hk5⟩ := hr7d.push ap164 (y := [u8V (48 + r)]) rfl rfl (by simpa using hmost2) hx1d.next
          unfold u8V at hap
          repeat' (first | refine EvC.seq ?_ | refine EvC.scope ?_ | refine EvC.block ?_ | (refine EvC.skip ?_) | (refine EvC.exit ?_) | (refine EvC.ret ?_; try simp only [thenC_ret, inBlock_ret]) | (refine EvC.reg ?_; simp (config := { maxSteps := 2000000 }) (disch := first | omega | rfl) only [sA, Nat.reduceEqDiff, if_true, if_false, g5, g7]))
          rw [dIdx_byte us9 (show r < _ from by show _ < 36; omega), dig_tab (by decide) hr]
          repeat' (first | refine EvC.seq ?_ | refine EvC.scope ?_ | refine EvC.block ?_ | (refine EvC.skip ?_) | (refine EvC.exit ?_) | (refine EvC.ret ?_; try simp only [thenC_ret, inBlock_ret]) | (refine LX_go ?_; simp (config := { maxSteps := 2000000 }) (disch := first | omega | rfl) only [sA, Nat.reduceEqDiff, Value.cells, one, if_true, if_false, layC, bs164_1, hap]))
          have hvq : valB 2 (q.take m) = valB 2 q := valB_trim hz
          have hq10 : valB 2 q = valB 2 M / 10 := by omega
          have hr10 : r = valB 2 M % 10 := by omega
          have hod2 : ((od ++ [r]).map fun x => [u8V (48 + x)]) = (od.map fun x => [u8V (48 + x)]) ++ [[u8V (48 + r)]] := by simp
          have hml : (q.take m).length = m := by rw [List.length_take, Nat.min_eq_left (by omega)]
          obtain ⟨csq, hgq, _⟩ := hoq.row
          have hgq5 : H5.get Hc.next = some (.row csq 3) := by rw [hk5 _ hoq.hi (fun cs h => by rw [hgq] at h; cases h)]; exact hgq
          have hrq5 : RdS H5 ((q.take m).map i64V) (some ⟨Hc.next, 0, none⟩) M.length := by
            have h1 := (hrq.take m)
            rw [← List.map_take] at h1
            exact RdS_same h1 fun _ b o s hb => by cases hb; rw [hgq5, hgq]
          refine ⟨valB 2 (q.take m), by rw [hvq]; omega, _, q.take m, od ++ [r], some ⟨Hc.next, 0, none⟩, M.length, _, _, rfl, rfl, fun y hy => hqb y (List.mem_of_mem_take hy), by rw [hml]; omega, ?_, ?_, ?_, ?_, ?_, hx5 _ hx1d (Nat.le_refl _), hrq5, fun _ b o s hb => .inr ⟨csq, by cases hb; exact hgq5⟩, by rw [hod2]; exact hr7b, (by first | (simp only [Tr.get_put, Nat.reduceEqDiff, if_false, g1]; rfl) | simp only [Tr.get_put, Nat.reduceEqDiff, if_false, g1]), (by first | (simp only [Tr.get_put, Nat.reduceEqDiff, if_false, g2]; rfl) | simp only [Tr.get_put, Nat.reduceEqDiff, if_false, g2]), (by first | (simp only [Tr.get_put, Nat.reduceEqDiff, if_true, if_false]; rfl) | simp only [Tr.get_put, Nat.reduceEqDiff, if_true, if_false]), by rw [hml]; first | (simp only [Tr.get_put, Nat.reduceEqDiff, if_true, if_false]; rfl) | simp only [Tr.get_put, Nat.reduceEqDiff, if_true, if_false]⟩
          · rw [List.getLast?_eq_getElem?, hml]
            by_cases h0 : m = 0
            · subst h0; simp
            · rw [List.getElem?_take, if_pos (by omega)]; exact hn0 h0
          · rw [hdec, decR_pos hvM, hvq, hq10, ← hr10]; simp
          · intro _
            rw [hvq, List.length_append, List.length_singleton, Nat.pow_succ]
            have h1 := hle hM0
            have h2 : valB 2 q * (10 ^ od.length * 10) = (valB 2 q * 10) * 10 ^ od.length := by rw [Nat.mul_comm (10 ^ od.length) 10, Nat.mul_assoc]
            rw [h2]
            exact Nat.le_trans (Nat.mul_le_mul_right _ (by omega)) h1
          · have := few_digits (e := mostBits) hvM (hle hM0) (by rw [← big_eq]; exact hn)
            simp [mostBits] at this
            simp; omega
          · intro y hy
            rcases List.mem_append.1 hy with h | h
            · exact hod y h
            · simp at h; omega
        | succ j =>
          have e0 : (((j + 1 : Nat) : Int) - 1) = (j : Int) := by omega
          rw [e0] at g9
          have hx : M[j]? = some M[j] := List.getElem?_eq_getElem (by omega)
          have hxb : M[j] < 2 := hMb _ (List.getElem_mem _)
          have htk : M.take (j + 1) = M.take j ++ [M[j]] := by rw [List.take_add_one, hx]; rfl
          generalize M[j] = x at hx hxb htk
          rw [htk] at hinv
          have hlj : (M.take j).length = j := by rw [List.length_take]; omega
          obtain ⟨b, o, rfl, hld⟩ := (hrM.keep hxd hxc.wf).get j (i64V x) (by simp [hx])
          unfold i64V at hld
          have e1 : (2 * (r : Int) + (x : Int)) = ((r * 2 + x : Nat) : Int) := by omega
          have hinv2 := div_inv (B := 2) (x := x) (r := r) (low := M.take j) (q := q)
          rw [hlj, hinv] at hinv2
          obtain ⟨csq, hgq, hclq, _⟩ := hoq.row
          have hlq : ((List.replicate (j + 1) 0 ++ q).map fun x => [i64V x]).length = M.length := by simp; omega
          rw [hlq, Nat.mul_one] at hclq
          have hk1 : j + 1 ≤ csq.length := by omega
          have hrep : List.replicate (j + 1) 0 ++ q = List.replicate j 0 ++ (0 :: q) := by rw [List.replicate_succ']; simp
          by_cases hge : 10 ≤ r * 2 + x
          · have e2 : (((r * 2 + x : Nat) : Int) - 10) = ((r * 2 + x - 10 : Nat) : Int) := by omega
            repeat' (first | refine EvC.seq ?_ | refine EvC.scope ?_ | refine EvC.block ?_ | (refine EvC.skip ?_; try simp only [thenC_normal]) | (refine EvC.exit ?_) | (refine EvC.ret ?_; try simp only [thenC_ret, inBlock_ret]) | (refine EvC.reg ?_; simp (config := { maxSteps := 2000000 }) (disch := first | omega | rfl) only [sA, Nat.reduceEqDiff, one, if_true, if_false, ia46, ld3, st3, g1, g6, g7, g8, g9, hld, e1, e2, hgq, hk1, decide_eq_true, wrap_i64]) | (refine EvC.condT ?_ ?_; simp (config := { maxSteps := 2000000 }) (disch := first | omega | rfl) only [sA, Nat.reduceEqDiff, if_true, if_false]; refine EvC_go ?_))
            have hset := hoq.set hgq (i := j) (y := [i64V 1]) (by rw [hlq]; omega) rfl rfl
            rw [Nat.mul_one] at hset
            have hset2 : ((List.replicate (j + 1) 0 ++ q).map fun x => [i64V x]).set j [i64V 1] = (List.replicate j 0 ++ (1 :: q)).map fun x => [i64V x] := by
              rw [hrep, List.map_append, List.set_append_right _ _ (by simp), List.length_map, List.length_replicate, Nat.sub_self]
              simp
            rw [hset2] at hset
            have h1 : (r * 2 + x) / 10 = 1 := by omega
            have h2 : (r * 2 + x) % 10 = r * 2 + x - 10 := by omega
            rw [h1, h2] at hinv2
            exact ⟨j, by omega, _, 1 :: q, r * 2 + x - 10, _, rfl, by omega, by simp; omega, by simpa using hqb, by omega, hinv2.symm, hxd.put hoq.lo hoq.hi _, hset, (by first | (simp only [Tr.get_put, Nat.reduceEqDiff, if_false, g1]; rfl) | simp only [Tr.get_put, Nat.reduceEqDiff, if_false, g1]), (by first | (simp only [Tr.get_put, Nat.reduceEqDiff, if_false, g2]; rfl) | simp only [Tr.get_put, Nat.reduceEqDiff, if_false, g2]), (by first | (simp only [Tr.get_put, Nat.reduceEqDiff, if_false, g5]; rfl) | simp only [Tr.get_put, Nat.reduceEqDiff, if_false, g5]), (by first | (simp only [Tr.get_put, Nat.reduceEqDiff, if_false, g6]; rfl) | simp only [Tr.get_put, Nat.reduceEqDiff, if_false, g6]), (by first | (simp only [Tr.get_put, Nat.reduceEqDiff, if_true, if_false]; rfl) | simp only [Tr.get_put, Nat.reduceEqDiff, if_true, if_false]), (by first | (simp only [Tr.get_put, Nat.reduceEqDiff, if_false, g8]; rfl) | simp only [Tr.get_put, Nat.reduceEqDiff, if_false, g8]), (by first | (simp only [Tr.get_put, Nat.reduceEqDiff, if_true, if_false]; rfl) | simp only [Tr.get_put, Nat.reduceEqDiff, if_true, if_false])⟩
          · repeat' (first | refine EvC.seq ?_ | refine EvC.scope ?_ | refine EvC.block ?_ | (refine EvC.skip ?_; try simp only [sA]) | (refine EvC.exit ?_) | (refine EvC.ret ?_; try simp only [thenC_ret, inBlock_ret]) | (refine EvC.reg ?_; simp (config := { maxSteps := 2000000 }) (disch := first | omega | rfl) only [sA, Nat.reduceEqDiff, if_true, if_false, ia46, ld3, g1, g6, g7, g9, hld, e1, decide_eq_true, decide_eq_false, wrap_i64]) | (refine EvC.condT ?_ ?_; simp (config := { maxSteps := 2000000 }) (disch := first | omega | rfl) only [sA, Nat.reduceEqDiff, if_true, if_false]; refine EvC_go ?_) | (refine EvC.condF ?_ ?_; simp (config := { maxSteps := 2000000 }) (disch := first | omega | rfl) only [sA, Nat.reduceEqDiff, if_true, if_false]; refine EvC_go ?_))
            have h1 : (r * 2 + x) / 10 = 0 := by omega
            have h2 : (r * 2 + x) % 10 = r * 2 + x := by omega
            rw [h1, h2] at hinv2
            exact ⟨j, by omega, _, 0 :: q, r * 2 + x, _, rfl, by omega, by simp; omega, by simpa using hqb, by omega, hinv2.symm, hxd, by rw [← hrep]; exact hoq, (by first | (simp only [Tr.get_put, Nat.reduceEqDiff, if_false, g1]; rfl) | simp only [Tr.get_put, Nat.reduceEqDiff, if_false, g1]), (by first | (simp only [Tr.get_put, Nat.reduceEqDiff, if_false, g2]; rfl) | simp only [Tr.get_put, Nat.reduceEqDiff, if_false, g2]), (by first | (simp only [Tr.get_put, Nat.reduceEqDiff, if_false, g5]; rfl) | simp only [Tr.get_put, Nat.reduceEqDiff, if_false, g5]), (by first | (simp only [Tr.get_put, Nat.reduceEqDiff, if_false, g6]; rfl) | simp only [Tr.get_put, Nat.reduceEqDiff, if_false, g6]), (by first | (simp only [Tr.get_put, Nat.reduceEqDiff, if_true, if_false]; rfl) | simp only [Tr.get_put, Nat.reduceEqDiff, if_true, if_false]), (by first | (simp only [Tr.get_put, Nat.reduceEqDiff, if_false, g8]; rfl) | simp only [Tr.get_put, Nat.reduceEqDiff, if_false, g8]), (by first | (simp only [Tr.get_put, Nat.reduceEqDiff, if_true, if_false]; rfl) | simp only [Tr.get_put, Nat.reduceEqDiff, if_true, if_false])⟩
      · refine ⟨_, [], 0, _, rfl, Nat.le_refl _, by simp, by simp, by omega, by simp [valB], hxq, ?_, (by first | (simp only [Tr.get_put, Nat.reduceEqDiff, if_false, g1]; rfl) | simp only [Tr.get_put, Nat.reduceEqDiff, if_false, g1]), (by first | (simp only [Tr.get_put, Nat.reduceEqDiff, if_false, g2]; rfl) | simp only [Tr.get_put, Nat.reduceEqDiff, if_false, g2]), (by first | (simp only [Tr.get_put, Nat.reduceEqDiff, if_false, g7]; rfl) | simp only [Tr.get_put, Nat.reduceEqDiff, if_false, g7]), (by first | (simp only [Tr.get_put, Nat.reduceEqDiff, if_false, g6]; rfl) | simp only [Tr.get_put, Nat.reduceEqDiff, if_false, g6]), (by first | (simp only [sA, Nat.reduceEqDiff, if_true, if_false]; rfl) | simp only []), (by first | (simp only [Tr.get_put, Nat.reduceEqDiff, if_true, if_false]; rfl) | simp only [Tr.get_put, Nat.reduceEqDiff, if_true, if_false]), (by first | (simp only [Tr.get_put, Nat.reduceEqDiff, if_true, if_false]; rfl) | simp only [Tr.get_put, Nat.reduceEqDiff, if_true, if_false])⟩
        have : (List.replicate M.length 0 ++ []).map (fun x => [i64V x]) = (List.replicate M.length (Value.int .i64 0)).map fun v => [v] := by simp [i64V]
        rw [this]; exact hoq
  · exact ⟨_, L, [], a, c, _, _, rfl, rfl, hL, hlen, hlast, by rw [hval]; rfl, fun _ => by rw [hval]; simp, by simp, by simp, HX.refl hw1, hr1, fun hne b o s ha => .inl (by have h1 := rds_lt r hw (by simpa using hne) ha; have h2 := hx0.next; exact Nat.lt_of_lt_of_le h1 h2), RepO.empty, (by first | (simp only [Tr.get_put, Nat.reduceEqDiff, reduceCtorEq, if_true, if_false]; rfl) | simp only [Tr.get_put, Nat.reduceEqDiff, reduceCtorEq, if_true, if_false]), (by first | (simp only [Tr.get_put, Nat.reduceEqDiff, reduceCtorEq, if_true, if_false]; rfl) | simp only [Tr.get_put, Nat.reduceEqDiff, reduceCtorEq, if_true, if_false]), (by first | (simp only [Tr.get_put, Nat.reduceEqDiff, reduceCtorEq, if_true, if_false]; rfl) | simp only [Tr.get_put, Nat.reduceEqDiff, reduceCtorEq, if_true, if_false]), (by first | (simp only [Tr.get_put, Nat.reduceEqDiff, reduceCtorEq, if_true, if_false]; rfl) | simp only [Tr.get_put, Nat.reduceEqDiff, reduceCtorEq, if_true, if_false])⟩
end Go.Proofs.YtlllbkjiadcloaaDoor.hb
end

-- W1
section
/- Counting a term's nodes. -/
namespace Go.Proofs.YtlllbkjiadcloaaDoor.hb
open Go Go.RowKit Go.Hb

theorem call48 : callable Tryd.prog 48 = true := by kernel_rfl
theorem agg26 : isAgg? Tryd.prog 26 = some true := by kernel_rfl
theorem agg24 : isAgg? Tryd.prog 24 = some false := by kernel_rfl
theorem cells26 : Tryd.prog.cellsOf 26 = 6 := by kernel_rfl
theorem info26 : (Tryd.prog.info? 26).isSome = true := by kernel_rfl
theorem fld26_5 : fldOf Tryd.prog 26 5 = some (5, 24) := by kernel_rfl
theorem one24 : Nat.beq (Tryd.prog.cellsOf 24) 0 = false := by kernel_rfl
theorem zero26 : zerosOf Tryd.prog 26 = some [.int .i64 0, .string ByteArray.empty, .string ByteArray.empty, .int .u64 0, .int .i64 0, .slice none 0 0] := by kernel_rfl

mutual
def cnt : Tm → Nat → Nat
  | .mk _ _ _ _ _ l, n => cntL l (n + 1)
def cntL : List Tm → Nat → Nat
  | [], n => n
  | t :: l, n => if 4000 < n then n else cntL l (cnt t n)
end

theorem body48 : Tryd.f48.body = some (Tryd.f48.body.get rfl) := rfl

theorem mem_size {t : Tm} {k : Int} {s u : ByteArray} {b v : Int} {l : List Tm} (h : t ∈ l) : SizeOf.sizeOf t < SizeOf.sizeOf (Tm.mk k s u b v l) := by
  have := List.sizeOf_lt_of_mem h
  simp; omega
theorem args_size {t u : Tm} {i : Nat} (h : t.args[i]? = some u) : SizeOf.sizeOf u < SizeOf.sizeOf t := by
  obtain ⟨k, s, w, b, v, l⟩ := t
  exact mem_size (List.mem_of_getElem? h)
theorem cnt_args (t : Tm) (n : Nat) : cnt t n = cntL t.args (n + 1) := by
  obtain ⟨k, s, w, b, v, l⟩ := t
  rw [cnt]; rfl
theorem cntL_le : ∀ (l : List Tm), (∀ t ∈ l, ∀ n, n ≤ 4000 → cnt t n ≤ 4001) → ∀ n, n ≤ 4001 → cntL l n ≤ 4001
  | [], _, n, h => by rw [cntL]; exact h
  | t :: l, ht, n, h => by
    rw [cntL]
    split
    · exact h
    · exact cntL_le l (fun u hu => ht u (List.mem_cons_of_mem _ hu)) _ (ht t (by simp) n (by omega))
theorem cnt_le : ∀ (m : Nat) (t : Tm), SizeOf.sizeOf t < m → ∀ n, n ≤ 4000 → cnt t n ≤ 4001
  | 0, t, h, _, _ => by omega
  | m + 1, t, h, n, hn => by
    rw [cnt_args]
    refine cntL_le _ (fun u hu k hk => cnt_le m u ?_ k hk) _ (by omega)
    obtain ⟨i, hi, e⟩ := List.getElem_of_mem hu
    have := args_size (t := t) (u := u) (i := i) (by rw [List.getElem?_eq_getElem hi, e])
    omega
theorem cntL_drop {l : List Tm} {i : Nat} {t : Tm} (h : l[i]? = some t) (n : Nat) (hn : n ≤ 4000) : cntL (l.drop i) n = cntL (l.drop (i + 1)) (cnt t n) := by
  have hlt := (List.getElem?_eq_some_iff.1 h).1
  have he : l[i] = t := (List.getElem?_eq_some_iff.1 h).2
  rw [List.drop_eq_getElem_cons hlt, cntL, if_neg (by omega), he]
theorem cntL_over {l : List Tm} {n : Nat} (hn : 4000 < n) : cntL l n = n := by
  cases l with
  | nil => rw [cntL]
  | cons t l => rw [cntL, if_pos hn]

variable {ok : Ok}
set_option maxRecDepth 10000 in
theorem count_ev (hk : ∀ args H, ok.K 48 args H = none) (hm : ok.testBit 48 = true) : ∀ (m : Nat) {t : Tm} {cs : List Value} {H : Heap}, SizeOf.sizeOf t < m → RepT H t cs → H.wf → ∀ n : Nat, n ≤ 4000 →
    EvF Tryd.prog ok 48 [.agg ⟨cs⟩, .int .i64 n] H fun v H' => v = .int .i64 (cnt t n) ∧ HX H H' := by
  intro m
  induction m with
  | zero => intro t cs H h; omega
  | succ m ih =>
  intro t cs H hsz r hw n hn
  obtain ⟨a, c, cells, rfl, b1, b2, b3, b4, b5, rl⟩ := r.inv
  refine EvF.enter (hk _ _) Tryd.func48 hm rfl ?_
  refine EvC.seq (EvC.reg ?_)
  simp (disch := omega) only [sA, initTm, dBox, Value.cells, one, reduceCtorEq, if_true, if_false]
  refine EvC.seq (EvC.reg ?_)
  simp (disch := omega) only [sA, Nat.reduceEqDiff, reduceCtorEq, if_true, if_false, wrap_i64]
  refine EvC.seq (EvC.seq (EvC.reg ?_))
  simp (disch := omega) only [sA, Nat.reduceEqDiff, reduceCtorEq, if_true, if_false, cutC, dFieldAddr_at fld26_5 one24, dLoad_one agg24, dLn_slice Tryd.underlying24]
  refine EvC.block (EvC.loop (fun k st => ∃ tm H' i n', st = ⟨tm, [], H'⟩ ∧ k = t.args.length - i ∧ i ≤ t.args.length ∧ n' ≤ 4001 ∧ cntL (t.args.drop i) n' = cnt t n ∧ tm.get 1 = some (.int .i64 (n' : Nat)) ∧
    tm.get 10 = some (.slice a t.args.length c) ∧ tm.get 11 = some (.int .i64 t.args.length) ∧ tm.get 12 = some (.int .i64 (i : Nat)) ∧ HX H H') ?_ t.args.length _ ?_)
  · rintro k st ⟨tm, H', i, n', rfl, hk', hi, hn', hc, g1, g10, g11, g12, hx⟩
    refine EvC.seq (EvC.reg ?_)
    simp (disch := omega) only [sA, g11, g12]
    refine EvC.seq ?_
    by_cases hlt : i < t.args.length
    · refine EvC.condT (by simp only [sA, if_true]; exact congrArg _ (decide_eq_true (by omega))) (EvC.skip ?_)
      obtain ⟨b, o, rfl, hload, hrep⟩ := rl.at (i := i) (List.getElem?_eq_getElem hlt)
      obtain ⟨a', c', cells', hcell, -⟩ := hrep.inv
      have hld := hx.load hw hload
      rw [hcell] at hld hrep
      refine EvC.seq (EvC.block (EvC.seq (EvC.reg ?_)))
      simp (disch := omega) only [sA, dAlloc, Nat.reduceEqDiff, Nat.reduceAdd, one, if_true, if_false, g10, g12, dIndexAddr_slice Tryd.underlying24 info26 hlt, dLoad_agg agg26, cells26, hld, zero26, dStore_agg info26]
      refine EvC.seq (EvC.seq (EvC.reg ?_))
      simp (disch := omega) only [sA, Nat.reduceEqDiff, if_true, if_false, g1]
      have hx2 := (hx.new (some (Blk.row [Value.int IntKind.i64 0, Value.string ByteArray.empty, Value.string ByteArray.empty, Value.int IntKind.u64 0, Value.int IntKind.i64 0, Value.slice none 0 0] 26))).put (i := H'.next) hx.next (Nat.lt_succ_self _)
        (some (.row [Value.int IntKind.i64 t.args[i].kind, Value.string t.args[i].name, Value.string t.args[i].num, Value.int IntKind.u64 t.args[i].bits, Value.int IntKind.i64 t.args[i].var, Value.slice a' t.args[i].args.length c'] 26))
      by_cases hov : 4000 < n'
      · refine EvC.condT (by simp only [sA, Nat.reduceEqDiff, if_true, if_false]; exact congrArg _ (decide_eq_true (by omega))) (EvC.exit ?_)
        simp only [thenC_exit, inBlock_exit, reduceIte, Nat.reduceEqDiff, thenC_normal]
        refine EvC.seq (EvC.reg ?_)
        simp (disch := omega) only [sA, Nat.reduceEqDiff, if_true, if_false, g1]
        refine EvC.ret (leave_one rfl (by simp only [Tr.get_put, Nat.reduceEqDiff, if_true, if_false]; rfl) ⟨?_, hx2⟩)
        rw [← hc, cntL_over hov]
      · refine EvC.condF (by simp only [sA, Nat.reduceEqDiff, if_true, if_false]; exact congrArg _ (decide_eq_false (by omega))) (EvC.skip ?_)
        simp only [thenC_normal]
        refine EvC.reg ?_
        simp (disch := omega) only [sA, Nat.reduceEqDiff, Nat.reduceAdd, if_true, if_false, cutC, g1, dLoad_agg agg26, cells26, dop_call call48]
        have ht : t.args[i]? = some t.args[i] := List.getElem?_eq_getElem hlt
        have hs := args_size ht
        have hx1 : HX H H' := hx
        refine (ih (t := t.args[i]) (by omega) (hrep.mono hx2 hw) hx2.wf n' (by omega)).mono ?_
        rintro v H2 ⟨rfl, hx3⟩
        have hL : t.args.length ≤ 9223372036854775807 := Nat.le_trans rl.len rl.cap
        refine EvC.reg ?_
        simp (disch := omega) only [sA, Nat.reduceEqDiff, if_true, if_false, g12, wrap_i64]
        refine ⟨t.args.length - (i + 1), by omega, _, _, i + 1, cnt t.args[i] n', rfl, rfl, by omega, cnt_le _ _ (Nat.lt_succ_self _) _ (by omega), by rw [← hc, cntL_drop ht _ (by omega)], by simp only [Tr.get_put, Nat.reduceEqDiff, if_true, if_false], by simp only [Tr.get_put, Nat.reduceEqDiff, if_false]; exact g10, by simp only [Tr.get_put, Nat.reduceEqDiff, if_false]; exact g11, by simp only [Tr.get_put, Nat.reduceEqDiff, if_true, if_false]; rfl, hx2.trans hx3⟩
    · refine EvC.condF (by simp only [sA, if_true]; exact congrArg _ (decide_eq_false (by omega))) (EvC.exit ?_)
      simp only [thenC_exit, inBlock_exit, reduceIte, Nat.reduceEqDiff, thenC_normal]
      refine EvC.seq (EvC.reg ?_)
      simp (disch := omega) only [sA, Nat.reduceEqDiff, if_true, if_false, g1]
      refine EvC.ret (leave_one rfl (by simp only [Tr.get_put, Nat.reduceEqDiff, if_true, if_false]; rfl) ⟨?_, hx⟩)
      rw [← hc, List.drop_of_length_le (by omega), cntL]
  · exact ⟨_, _, 0, n + 1, rfl, rfl, by omega, by omega, by rw [cnt_args]; rfl, by simp only [Tr.get_put, Nat.reduceEqDiff, reduceCtorEq, if_true, if_false]; rfl, by simp only [Tr.get_put, Nat.reduceEqDiff, reduceCtorEq, if_true, if_false], by simp only [Tr.get_put, Nat.reduceEqDiff, reduceCtorEq, if_true, if_false], by simp only [Tr.get_put, Nat.reduceEqDiff, reduceCtorEq, if_true, if_false]; rfl, (HX.refl hw).new _⟩
end Go.Proofs.YtlllbkjiadcloaaDoor.hb
end

-- W2
section
/- Counting a term's nodes: the reference, and both 'Nodes'. -/
namespace Go.Proofs.YtlllbkjiadcloaaDoor.hb
open Go Go.RowKit Go.Hb

theorem call49 : callable Tryd.prog 49 = true := by kernel_rfl
theorem call13 : callable Tryd.prog 13 = true := by kernel_rfl
theorem call14 : callable Tryd.prog 14 = true := by kernel_rfl

variable {ok : Ok}
set_option maxRecDepth 10000 in
theorem count_ref_ev (hk : ∀ args H, ok.K 49 args H = none) (hm : ok.testBit 49 = true) : ∀ (m : Nat) {t : Tm} {cs : List Value} {H : Heap}, SizeOf.sizeOf t < m → RepT H t cs → H.wf → ∀ n : Nat, n ≤ 4000 →
    EvF Tryd.prog ok 49 [.agg ⟨cs⟩, .int .i64 n] H fun v H' => v = .int .i64 (cnt t n) ∧ HX H H' := by
  intro m
  induction m with
  | zero => intro t cs H h; omega
  | succ m ih =>
  intro t cs H hsz r hw n hn
  obtain ⟨a, c, cells, rfl, b1, b2, b3, b4, b5, rl⟩ := r.inv
  refine EvF.enter (hk _ _) Tryd.func49 hm rfl ?_
  (repeat refine EvC.seq ?_); refine EvC.reg ?_
  simp (disch := omega) only [sA, initTm, dBox, Value.cells, one, reduceCtorEq, if_true, if_false]
  (repeat refine EvC.seq ?_); refine EvC.reg ?_
  simp (disch := omega) only [sA, Nat.reduceEqDiff, reduceCtorEq, if_true, if_false, wrap_i64]
  (repeat refine EvC.seq ?_); refine EvC.reg ?_
  simp (disch := omega) only [sA]
  (repeat refine EvC.seq ?_); refine EvC.block (EvC.loop (fun k st => ∃ tm H' i n', st = ⟨tm, [], H'⟩ ∧ k = t.args.length - i ∧ i ≤ t.args.length ∧ n' ≤ 4001 ∧ cntL (t.args.drop i) n' = cnt t n ∧ tm.get 1 = some (.int .i64 (n' : Nat)) ∧
    tm.get 2 = some (.pointer (some ⟨H.next, 0, none⟩)) ∧ tm.get 5 = some (.int .i64 (i : Nat)) ∧
    H'.get H.next = some (.row [.int .i64 t.kind, .string t.name, .string t.num, .int .u64 t.bits, .int .i64 t.var, .slice a t.args.length c] 26) ∧ H.next < H'.next ∧ HX H H') ?_ t.args.length _ ?_)
  · rintro k st ⟨tm, H', i, n', rfl, hk', hi, hn', hc, g1, g2, g5, hbox, hlt0, hx⟩
    have hld5 : H'.load ⟨H.next, 5, none⟩ 1 = some [.slice a t.args.length c] := by
      simp only [Heap.load, Heap.cells, hbox]; rfl
    (repeat refine EvC.seq ?_); refine EvC.reg ?_
    by_cases hlt : i < t.args.length
    · obtain ⟨b, o, rfl, hload, hrep⟩ := rl.at (i := i) (List.getElem?_eq_getElem hlt)
      obtain ⟨a', c', cells', hcell, -⟩ := hrep.inv
      have hld := hx.load hw hload
      rw [hcell] at hld hrep
      have hd1 : decide ((i : Int) < (t.args.length : Int)) = true := decide_eq_true (by omega)
      simp (disch := omega) only [sA, Nat.reduceEqDiff, if_true, if_false, g1, g2, g5, dFieldAddr_at fld26_5 one24, dLoad_one agg24, hld5, dLn_slice Tryd.underlying24, hd1]
      by_cases hov : 4000 < n'
      · (repeat refine EvC.seq ?_); refine EvC.condF (by simp only [sA, Nat.reduceEqDiff, if_true, if_false]; exact congrArg _ (decide_eq_false (by omega))) (EvC.exit ?_)
        simp only [thenC_exit, inBlock_exit, reduceIte, thenC_normal]
        (repeat refine EvC.seq ?_); refine EvC.reg ?_
        simp (disch := omega) only [sA, Nat.reduceEqDiff, if_true, if_false, g1]
        refine EvC.ret (leave_one rfl (by simp only [Tr.get_put, Nat.reduceEqDiff, if_true, if_false]; rfl) ⟨?_, hx⟩)
        rw [← hc, cntL_over hov]
      · (repeat refine EvC.seq ?_); refine EvC.condT (by simp only [sA, Nat.reduceEqDiff, if_true, if_false]; exact congrArg _ (decide_eq_true (by omega))) (EvC.skip ?_)
        simp only [thenC_normal]
        (repeat refine EvC.seq ?_); refine EvC.block ?_; (repeat refine EvC.seq ?_); refine EvC.reg ?_
        simp (disch := omega) only [sA, Nat.reduceEqDiff, if_true, if_false, g1, g2, g5, dFieldAddr_at fld26_5 one24, dLoad_one agg24, hld5, dIndexAddr_slice Tryd.underlying24 info26 hlt, dLoad_agg agg26, cells26, hld, dop_call call49]
        have ht : t.args[i]? = some t.args[i] := List.getElem?_eq_getElem hlt
        have hs := args_size ht
        refine (ih (t := t.args[i]) (by omega) (hrep.mono hx hw) hx.wf n' (by omega)).mono ?_
        rintro v H2 ⟨rfl, hx3⟩
        have hL : t.args.length ≤ 9223372036854775807 := Nat.le_trans rl.len rl.cap
        refine EvC.reg ?_
        simp (disch := omega) only [sA, Nat.reduceEqDiff, if_true, if_false, g5, wrap_i64]
        refine ⟨t.args.length - (i + 1), by omega, _, _, i + 1, cnt t.args[i] n', rfl, rfl, by omega, cnt_le _ _ (Nat.lt_succ_self _) _ (by omega), by rw [← hc, cntL_drop ht _ (by omega)], by simp only [Tr.get_put, Nat.reduceEqDiff, if_true, if_false], by simp only [Tr.get_put, Nat.reduceEqDiff, if_false]; exact g2, by simp only [Tr.get_put, Nat.reduceEqDiff, if_true, if_false]; rfl,
          by rw [hx3.keep _ hlt0]; exact hbox, Nat.lt_of_lt_of_le hlt0 hx3.next, hx.trans hx3⟩
    · have hd1 : decide ((i : Int) < (t.args.length : Int)) = false := decide_eq_false (by omega)
      simp (disch := omega) only [sA, Nat.reduceEqDiff, if_true, if_false, g2, g5, dFieldAddr_at fld26_5 one24, dLoad_one agg24, hld5, dLn_slice Tryd.underlying24, hd1, Bool.false_eq_true]
      (repeat refine EvC.seq ?_); refine EvC.condF (by simp only [sA, Nat.reduceEqDiff, if_true, if_false]) (EvC.exit ?_)
      simp only [thenC_exit, inBlock_exit, reduceIte, thenC_normal]
      (repeat refine EvC.seq ?_); refine EvC.reg ?_
      simp (disch := omega) only [sA, Nat.reduceEqDiff, if_true, if_false, g1]
      refine EvC.ret (leave_one rfl (by simp only [Tr.get_put, Nat.reduceEqDiff, if_true, if_false]; rfl) ⟨?_, hx⟩)
      rw [← hc, List.drop_of_length_le (by omega), cntL]
  · exact ⟨_, _, 0, n + 1, rfl, rfl, by omega, by omega, by rw [cnt_args]; rfl, by simp only [Tr.get_put, Nat.reduceEqDiff, reduceCtorEq, if_true, if_false]; rfl, by simp only [Tr.get_put, Nat.reduceEqDiff, reduceCtorEq, if_true, if_false], by simp only [Tr.get_put, Nat.reduceEqDiff, reduceCtorEq, if_true, if_false]; rfl, by simp only [if_true, get_new], Nat.lt_succ_self _, (HX.refl hw).new _⟩

theorem nodes_ev (hk : ∀ f args H, (f = 48 ∨ f = 13) → ok.K f args H = none) (hm : ok.testBit 48 = true) (hm2 : ok.testBit 13 = true) {t : Tm} {cs : List Value} {H : Heap} (r : RepT H t cs) (hw : H.wf) :
    EvF Tryd.prog ok 13 [.agg ⟨cs⟩] H fun v H' => v = .int .i64 (cnt t 0) ∧ HX H H' := by
  obtain ⟨a, c, cells, rfl, b1, b2, b3, b4, b5, rl⟩ := r.inv
  refine EvF.enter (hk _ _ _ (.inr rfl)) Tryd.func13 hm2 rfl ?_
  (repeat refine EvC.seq ?_); refine EvC.reg ?_
  simp (disch := omega) only [sA, initTm, dBox, Value.cells, one, if_true]
  (repeat refine EvC.seq ?_); refine EvC.reg ?_
  simp (disch := omega) only [sA, Nat.reduceEqDiff, Nat.reduceAdd, reduceCtorEq, if_true, if_false, cutC, dLoad_agg agg26, cells26, dop_call call48]
  have hx := (HX.refl hw).new (some (Blk.row [Value.int IntKind.i64 t.kind, Value.string t.name, Value.string t.num, Value.int IntKind.u64 t.bits, Value.int IntKind.i64 t.var, Value.slice a t.args.length c] 26))
  refine (count_ev (hk 48 · · (.inl rfl)) hm _ (Nat.lt_succ_self _) (r.mono hx hw) hx.wf 0 (by omega)).mono ?_
  rintro v H2 ⟨rfl, hx3⟩
  have hle := cnt_le _ t (Nat.lt_succ_self _) 0 (by omega)
  have hif : (if (4001 : Int) < (cnt t 0 : Int) then (4001 : Int) else (cnt t 0 : Int)) = (cnt t 0 : Int) := if_neg (by omega)
  simp (disch := omega) only [sA, Nat.reduceEqDiff, reduceCtorEq, if_true, if_false, dop_min, min_int, hif]
  exact EvC.ret (leave_one rfl (by simp only [Tr.get_put, Nat.reduceEqDiff, reduceCtorEq, if_true, if_false]) ⟨rfl, hx.trans hx3⟩)

theorem nodes_ref_ev (hk : ∀ f args H, (f = 49 ∨ f = 14) → ok.K f args H = none) (hm : ok.testBit 49 = true) (hm2 : ok.testBit 14 = true) {t : Tm} {cs : List Value} {H : Heap} (r : RepT H t cs) (hw : H.wf) :
    EvF Tryd.prog ok 14 [.agg ⟨cs⟩] H fun v H' => v = .int .i64 (cnt t 0) ∧ HX H H' := by
  obtain ⟨a, c, cells, rfl, b1, b2, b3, b4, b5, rl⟩ := r.inv
  refine EvF.enter (hk _ _ _ (.inr rfl)) Tryd.func14 hm2 rfl ?_
  (repeat refine EvC.seq ?_); refine EvC.reg ?_
  simp (disch := omega) only [sA, initTm, dBox, Value.cells, one, if_true]
  (repeat refine EvC.seq ?_); refine EvC.reg ?_
  simp (disch := omega) only [sA, Nat.reduceEqDiff, Nat.reduceAdd, reduceCtorEq, if_true, if_false, cutC, dLoad_agg agg26, cells26, dop_call call49]
  have hx := (HX.refl hw).new (some (Blk.row [Value.int IntKind.i64 t.kind, Value.string t.name, Value.string t.num, Value.int IntKind.u64 t.bits, Value.int IntKind.i64 t.var, Value.slice a t.args.length c] 26))
  refine (count_ref_ev (hk 49 · · (.inl rfl)) hm _ (Nat.lt_succ_self _) (r.mono hx hw) hx.wf 0 (by omega)).mono ?_
  rintro v H2 ⟨rfl, hx3⟩
  have hle := cnt_le _ t (Nat.lt_succ_self _) 0 (by omega)
  (repeat refine EvC.seq ?_); refine EvC.reg ?_
  simp (disch := omega) only [sA, Nat.reduceEqDiff, reduceCtorEq, if_true, if_false]
  by_cases hov : 4000 < cnt t 0
  · refine EvC.condT (by simp only [sA, Nat.reduceEqDiff, reduceCtorEq, if_true, if_false]; exact congrArg _ (decide_eq_true (by omega))) ?_
    (repeat refine EvC.seq ?_); refine EvC.reg ?_
    simp (disch := omega) only [sA]
    refine EvC.ret ?_
    simp only [thenC_ret]
    exact leave_one rfl (by simp only [Tr.get_put, Nat.reduceEqDiff, reduceCtorEq, if_true, if_false]; rfl) ⟨by rw [show cnt t 0 = 4001 by omega]; first | done | rfl, hx.trans hx3⟩
  · refine EvC.condF (by simp only [sA, Nat.reduceEqDiff, reduceCtorEq, if_true, if_false]; exact congrArg _ (decide_eq_false (by omega))) (EvC.skip ?_)
    simp only [thenC_normal]
    (repeat refine EvC.seq ?_); refine EvC.reg ?_
    simp (disch := omega) only [sA, Nat.reduceEqDiff, reduceCtorEq, if_true, if_false]
    exact EvC.ret (leave_one rfl (by simp only [Tr.get_put, Nat.reduceEqDiff, reduceCtorEq, if_true, if_false]) ⟨rfl, hx.trans hx3⟩)
end Go.Proofs.YtlllbkjiadcloaaDoor.hb
end

-- W3
section
/- A node by itself: the fields that its kind does not use. -/
namespace Go.Proofs.YtlllbkjiadcloaaDoor.hb
open Go Go.RowKit Go.Hb

theorem fld26_0 : fldOf Tryd.prog 26 0 = some (0, 3) := by kernel_rfl
theorem fld26_1 : fldOf Tryd.prog 26 1 = some (1, 9) := by kernel_rfl
theorem fld26_2 : fldOf Tryd.prog 26 2 = some (2, 9) := by kernel_rfl
theorem fld26_3 : fldOf Tryd.prog 26 3 = some (3, 23) := by kernel_rfl
theorem fld26_4 : fldOf Tryd.prog 26 4 = some (4, 3) := by kernel_rfl
theorem one3 : Nat.beq (Tryd.prog.cellsOf 3) 0 = false := by kernel_rfl
theorem one9 : Nat.beq (Tryd.prog.cellsOf 9) 0 = false := by kernel_rfl
theorem one23 : Nat.beq (Tryd.prog.cellsOf 23) 0 = false := by kernel_rfl
theorem cells3 : Tryd.prog.cellsOf 3 = 1 := by kernel_rfl
theorem cells9 : Tryd.prog.cellsOf 9 = 1 := by kernel_rfl
theorem cells23 : Tryd.prog.cellsOf 23 = 1 := by kernel_rfl
theorem cells24 : Tryd.prog.cellsOf 24 = 1 := by kernel_rfl
theorem agg3 : isAgg? Tryd.prog 3 = some false := by kernel_rfl
theorem agg9 : isAgg? Tryd.prog 9 = some false := by kernel_rfl
theorem agg23 : isAgg? Tryd.prog 23 = some false := by kernel_rfl
theorem info3 : (Tryd.prog.info? 3).isSome = true := by kernel_rfl
theorem info9 : (Tryd.prog.info? 9).isSome = true := by kernel_rfl
theorem info23 : (Tryd.prog.info? 23).isSome = true := by kernel_rfl
theorem info24 : (Tryd.prog.info? 24).isSome = true := by kernel_rfl

theorem toList_empty : ByteArray.toList { data := #[] } = [] := by
  rw [ByteArray.toList, ByteArray.toList.loop]; rfl
def isE (s : ByteArray) : Bool := s.toList == []
/-- the fields that a kind does not use are their zero values -/
def blankB (t : Tm) : Bool :=
  (t.kind == 2 || t.kind == 5 || isE t.name) && (t.kind == 3 || isE t.num) && (t.kind == 4 || t.bits == 0) && (t.kind == 1 || t.var == 0) && (t.kind == 5 || (t.args.length : Int) == 0)

variable {ok : Ok}
set_option maxRecDepth 10000 in
set_option maxHeartbeats 2000000 in
theorem blank_ev (hk : ∀ args H, ok.K 100 args H = none) (hm : ok.testBit 100 = true) {t : Tm} {cs : List Value} {H : Heap} (r : RepT H t cs) (hw : H.wf) :
    EvF Tryd.prog ok 100 [.agg ⟨cs⟩] H fun v H' => v = .bool (blankB t) ∧ HX H H' := by
  obtain ⟨a, c, cells, rfl, b1, b2, b3, b4, b5, rl⟩ := r.inv
  refine EvF.enter (hk _ _) Tryd.func100 hm rfl ?_
  (repeat refine EvC.seq ?_); refine EvC.reg ?_
  simp (disch := omega) only [sA, initTm, dBox, Value.cells, one, if_true]
  (repeat refine EvC.seq ?_); refine EvC.reg ?_
  simp (disch := omega) only [sA, Nat.reduceEqDiff, reduceCtorEq, if_true, if_false, cutC, dFieldAddr_at fld26_0 one3, dLoad_one agg3]
  refine EvC.meet (fun st => ∃ tm H' nm nu b v a n c, st = ⟨tm, [], H'⟩ ∧ tm.get 1 = some (.pointer (some ⟨H.next, 0, none⟩)) ∧ H'.get H.next = some (.row [.int .i64 t.kind, .string nm, .string nu, .int .u64 b, .int .i64 v, .slice a n c] 26) ∧
    HX H H' ∧ (isE nm && isE nu && b == 0 && v == 0 && (n : Int) == 0) = blankB t) ?_ ?_
  · refine EvC.block ?_
    have hx0 := (HX.refl hw).new (some (Blk.row [Value.int IntKind.i64 t.kind, Value.string t.name, Value.string t.num, Value.int IntKind.u64 t.bits, Value.int IntKind.i64 t.var, Value.slice a t.args.length c] 26))
    have hxp : ∀ B, HX H ((H.new (some (Blk.row [Value.int IntKind.i64 t.kind, Value.string t.name, Value.string t.num, Value.int IntKind.u64 t.bits, Value.int IntKind.i64 t.var, Value.slice a t.args.length c] 26))).put H.next B) := fun B => hx0.put (Nat.le_refl _) (Nat.lt_succ_self _) B
    (repeat refine EvC.seq ?_); refine EvC.reg ?_
    simp (disch := omega) only [sA, Nat.reduceEqDiff, reduceCtorEq, if_true, if_false]
    by_cases k1 : t.kind = 1
    · refine EvC.condT (by simp only [sA, Nat.reduceEqDiff, reduceCtorEq, if_true, if_false]; rw [k1]; rfl) ?_
      (repeat refine EvC.seq ?_); refine EvC.reg ?_
      simp (disch := omega) only [sA, Nat.reduceEqDiff, Nat.reduceAdd, one, reduceCtorEq, if_true, if_false, Nat.reduceLeDiff, dFieldAddr_at fld26_4 one3, dStore_int info3 cells3]
      exact ⟨_, _, t.name, t.num, t.bits, 0, a, t.args.length, c, rfl, by simp only [Tr.get_put, Nat.reduceEqDiff, reduceCtorEq, if_true, if_false], by simp only [sA, if_true], hxp _, by simp [blankB, k1]⟩
    refine EvC.condF (by simp only [sA, Nat.reduceEqDiff, reduceCtorEq, if_true, if_false]; rw [show (t.kind == 1) = false by simpa using k1]) ?_
    (repeat refine EvC.seq ?_); refine EvC.reg ?_
    simp (disch := omega) only [sA, Nat.reduceEqDiff, reduceCtorEq, if_true, if_false]
    by_cases k2 : t.kind = 2
    · refine EvC.condT (by simp only [sA, Nat.reduceEqDiff, reduceCtorEq, if_true, if_false]; rw [k2]; rfl) ?_
      (repeat refine EvC.seq ?_); refine EvC.reg ?_
      simp (disch := omega) only [sA, Nat.reduceEqDiff, Nat.reduceAdd, one, reduceCtorEq, if_true, if_false, Nat.reduceLeDiff, dFieldAddr_at fld26_1 one9, dStore_string info9 cells9]
      exact ⟨_, _, ByteArray.empty, t.num, t.bits, t.var, a, t.args.length, c, rfl, by simp only [Tr.get_put, Nat.reduceEqDiff, reduceCtorEq, if_true, if_false], by simp only [sA, if_true]; rfl, hxp _, by simp [blankB, k2, isE]⟩
    refine EvC.condF (by simp only [sA, Nat.reduceEqDiff, reduceCtorEq, if_true, if_false]; rw [show (t.kind == 2) = false by simpa using k2]) ?_
    (repeat refine EvC.seq ?_); refine EvC.reg ?_
    simp (disch := omega) only [sA, Nat.reduceEqDiff, reduceCtorEq, if_true, if_false]
    by_cases k3 : t.kind = 3
    · refine EvC.condT (by simp only [sA, Nat.reduceEqDiff, reduceCtorEq, if_true, if_false]; rw [k3]; rfl) ?_
      (repeat refine EvC.seq ?_); refine EvC.reg ?_
      simp (disch := omega) only [sA, Nat.reduceEqDiff, Nat.reduceAdd, one, reduceCtorEq, if_true, if_false, Nat.reduceLeDiff, dFieldAddr_at fld26_2 one9, dStore_string info9 cells9]
      exact ⟨_, _, t.name, ByteArray.empty, t.bits, t.var, a, t.args.length, c, rfl, by simp only [Tr.get_put, Nat.reduceEqDiff, reduceCtorEq, if_true, if_false], by simp only [sA, if_true]; rfl, hxp _, by simp [blankB, k3, isE]⟩
    refine EvC.condF (by simp only [sA, Nat.reduceEqDiff, reduceCtorEq, if_true, if_false]; rw [show (t.kind == 3) = false by simpa using k3]) ?_
    (repeat refine EvC.seq ?_); refine EvC.reg ?_
    simp (disch := omega) only [sA, Nat.reduceEqDiff, reduceCtorEq, if_true, if_false]
    by_cases k4 : t.kind = 4
    · refine EvC.condT (by simp only [sA, Nat.reduceEqDiff, reduceCtorEq, if_true, if_false]; rw [k4]; rfl) ?_
      (repeat refine EvC.seq ?_); refine EvC.reg ?_
      simp (disch := omega) only [sA, Nat.reduceEqDiff, Nat.reduceAdd, one, reduceCtorEq, if_true, if_false, Nat.reduceLeDiff, dFieldAddr_at fld26_3 one23, dStore_int info23 cells23]
      exact ⟨_, _, t.name, t.num, 0, t.var, a, t.args.length, c, rfl, by simp only [Tr.get_put, Nat.reduceEqDiff, reduceCtorEq, if_true, if_false], by simp only [sA, if_true], hxp _, by simp [blankB, k4]⟩
    refine EvC.condF (by simp only [sA, Nat.reduceEqDiff, reduceCtorEq, if_true, if_false]; rw [show (t.kind == 4) = false by simpa using k4]) ?_
    (repeat refine EvC.seq ?_); refine EvC.reg ?_
    simp (disch := omega) only [sA, Nat.reduceEqDiff, reduceCtorEq, if_true, if_false]
    by_cases k5 : t.kind = 5
    · refine EvC.condT (by simp only [sA, Nat.reduceEqDiff, reduceCtorEq, if_true, if_false]; rw [k5]; rfl) ?_
      (repeat refine EvC.seq ?_); refine EvC.reg ?_
      simp (disch := omega) only [sA, Nat.reduceEqDiff, Nat.reduceAdd, one, reduceCtorEq, if_true, if_false, Nat.reduceLeDiff, dFieldAddr_at fld26_1 one9, dFieldAddr_at fld26_5 one24, dStore_string info9 cells9, dStore_slice info24 cells24]
      exact ⟨_, _, ByteArray.empty, t.num, t.bits, t.var, none, 0, 0, rfl, by simp only [Tr.get_put, Nat.reduceEqDiff, reduceCtorEq, if_true, if_false], by simp only [sA, if_true]; rfl, (hxp _).put (Nat.le_refl _) (Nat.lt_succ_self _) _, by simp [blankB, k5, isE]⟩
    refine EvC.condF (by simp only [sA, Nat.reduceEqDiff, reduceCtorEq, if_true, if_false]; rw [show (t.kind == 5) = false by simpa using k5]) (EvC.skip ?_)
    exact ⟨rfl, _, _, t.name, t.num, t.bits, t.var, a, t.args.length, c, rfl, by simp only [Tr.get_put, Nat.reduceEqDiff, reduceCtorEq, if_true, if_false], by simp only [if_true, get_new], hx0, by simp [blankB, show (t.kind == 1) = false by simpa using k1, show (t.kind == 2) = false by simpa using k2, show (t.kind == 3) = false by simpa using k3, show (t.kind == 4) = false by simpa using k4, show (t.kind == 5) = false by simpa using k5]⟩
  · rintro st ⟨tm, H', nm, nu, b, v, a, n, c, rfl, g1, hrow, hx, hres⟩
    simp only [thenC_normal]
    have l1 : H'.load ⟨H.next, 1, none⟩ 1 = some [.string nm] := by simp only [Heap.load, Heap.cells, hrow]; rfl
    have l2 : H'.load ⟨H.next, 2, none⟩ 1 = some [.string nu] := by simp only [Heap.load, Heap.cells, hrow]; rfl
    have l3 : H'.load ⟨H.next, 3, none⟩ 1 = some [.int .u64 b] := by simp only [Heap.load, Heap.cells, hrow]; rfl
    have l4 : H'.load ⟨H.next, 4, none⟩ 1 = some [.int .i64 v] := by simp only [Heap.load, Heap.cells, hrow]; rfl
    have l5 : H'.load ⟨H.next, 5, none⟩ 1 = some [.slice a n c] := by simp only [Heap.load, Heap.cells, hrow]; rfl
    (repeat refine EvC.seq ?_); refine EvC.reg ?_
    unfold isE at hres
    cases h1 : (nm.toList == []) with
    | false =>
      simp (disch := omega) only [sA, Nat.reduceEqDiff, if_true, if_false, dBin_eqlS, g1, dFieldAddr_at fld26_1 one9, dLoad_one agg9, l1, toList_empty, h1, Bool.false_eq_true]
      exact EvC.ret (leave_one rfl (by simp only [Tr.get_put, Nat.reduceEqDiff, if_true, if_false]; rfl) ⟨by rw [← hres, h1]; rfl, hx⟩)
    | true =>
    cases h2 : (nu.toList == []) with
    | false =>
      simp (disch := omega) only [sA, Nat.reduceEqDiff, if_true, if_false, dBin_eqlS, g1, dFieldAddr_at fld26_1 one9, dFieldAddr_at fld26_2 one9, dLoad_one agg9, l1, l2, toList_empty, Bool.false_eq_true, h1, h2]
      exact EvC.ret (leave_one rfl (by simp only [Tr.get_put, Nat.reduceEqDiff, if_true, if_false]; rfl) ⟨by rw [← hres, h1, h2]; rfl, hx⟩)
    | true =>
    cases h3 : (b == 0) with
    | false =>
      simp (disch := omega) only [sA, Nat.reduceEqDiff, if_true, if_false, dBin_eqlS, g1, dFieldAddr_at fld26_1 one9, dFieldAddr_at fld26_2 one9, dFieldAddr_at fld26_3 one23, dLoad_one agg9, dLoad_one agg23, l1, l2, l3, toList_empty, Bool.false_eq_true, h1, h2, h3]
      exact EvC.ret (leave_one rfl (by simp only [Tr.get_put, Nat.reduceEqDiff, if_true, if_false]; rfl) ⟨by rw [← hres, h1, h2, h3]; rfl, hx⟩)
    | true =>
    cases h4 : (v == 0) with
    | false =>
      simp (disch := omega) only [sA, Nat.reduceEqDiff, if_true, if_false, dBin_eqlS, g1, dFieldAddr_at fld26_1 one9, dFieldAddr_at fld26_2 one9, dFieldAddr_at fld26_3 one23, dFieldAddr_at fld26_4 one3, dLoad_one agg9, dLoad_one agg3, dLoad_one agg23, l1, l2, l3, l4, toList_empty, Bool.false_eq_true, h1, h2, h3, h4]
      exact EvC.ret (leave_one rfl (by simp only [Tr.get_put, Nat.reduceEqDiff, if_true, if_false]; rfl) ⟨by rw [← hres, h1, h2, h3, h4]; rfl, hx⟩)
    | true =>
      simp (disch := omega) only [sA, Nat.reduceEqDiff, if_true, if_false, dBin_eqlS, g1, dFieldAddr_at fld26_1 one9, dFieldAddr_at fld26_2 one9, dFieldAddr_at fld26_3 one23, dFieldAddr_at fld26_4 one3, dFieldAddr_at fld26_5 one24, dLoad_one agg9, dLoad_one agg3, dLoad_one agg23, dLoad_one agg24, l1, l2, l3, l4, l5, toList_empty, dLn_slice Tryd.underlying24, h1, h2, h3, h4]
      exact EvC.ret (leave_one rfl (by simp only [Tr.get_put, Nat.reduceEqDiff, if_true, if_false]; rfl) ⟨by rw [← hres, h1, h2, h3, h4]; rfl, hx⟩)
end Go.Proofs.YtlllbkjiadcloaaDoor.hb
end

-- W4
section
/- A node by itself: what is wrong with it. -/
namespace Go.Proofs.YtlllbkjiadcloaaDoor.hb
open Go Go.RowKit Go.Hb

/-- what is wrong with a node alone; 'utf': is a name well formed? 'num': is a text an integer's? 'flt': are bits a float's? -/
def nodeE (utf num : ByteArray → Bool) (flt : Int → Bool) (t : Tm) : Int :=
  if t.kind < 1 ∨ 5 < t.kind then 20 else if blankB t = false then 20 else if t.var < 0 then 20 else if t.kind = 5 ∧ (t.args.length = 0 ∨ 64 < t.args.length) then 20
  else if utf t.name = false then 21 else if 1000 < t.name.size then 21 else if t.kind = 3 ∧ num t.num = false then 22 else if t.kind = 4 ∧ flt t.bits = false then 23 else 0

def bndB (t : Tm) : Bool := decide (t.var < 0) || (t.kind == 5 && ((t.args.length : Int) == 0 || decide ((t.args.length : Int) > 64)))
theorem nodeE_bnd {utf num : ByteArray → Bool} {flt : Int → Bool} {t : Tm} (h1 : ¬ (t.kind < 1 ∨ 5 < t.kind)) (h2 : blankB t = true) (h3 : bndB t = true) : nodeE utf num flt t = 20 := by
  rw [nodeE, if_neg h1, if_neg (by rw [h2]; simp)]
  unfold bndB at h3
  simp only [Bool.or_eq_true, Bool.and_eq_true, beq_iff_eq, decide_eq_true_eq] at h3
  by_cases hv : t.var < 0
  · rw [if_pos hv]
  · rw [if_neg hv, if_pos]
    rcases h3 with h | ⟨h, h' | h'⟩
    · exact absurd h hv
    · exact ⟨h, .inl (by omega)⟩
    · exact ⟨h, .inr (by omega)⟩
theorem nodeE_rest {utf num : ByteArray → Bool} {flt : Int → Bool} {t : Tm} (h1 : ¬ (t.kind < 1 ∨ 5 < t.kind)) (h2 : blankB t = true) (h3 : bndB t = false) :
    nodeE utf num flt t = if utf t.name = false then 21 else if 1000 < t.name.size then 21 else if t.kind = 3 ∧ num t.num = false then 22 else if t.kind = 4 ∧ flt t.bits = false then 23 else 0 := by
  rw [nodeE, if_neg h1, if_neg (by rw [h2]; simp)]
  unfold bndB at h3
  simp only [Bool.or_eq_false_iff, Bool.and_eq_false_iff, beq_eq_false_iff_ne, decide_eq_false_iff_not] at h3
  rw [if_neg h3.1, if_neg (fun h => by rcases h3.2 with h' | h' <;> first | exact h' h.1 | (have := h.2; omega))]

theorem call100 : callable Tryd.prog 100 = true := by kernel_rfl
theorem call101 : callable Tryd.prog 101 = true := by kernel_rfl
theorem call102 : callable Tryd.prog 102 = true := by kernel_rfl
theorem call105 : callable Tryd.prog 105 = true := by kernel_rfl
theorem call106 : callable Tryd.prog 106 = true := by kernel_rfl
theorem call107 : callable Tryd.prog 107 = true := by kernel_rfl

/-- a call that tells a Bool of a text, and leaves all as it is -/
def TellsS (ok : Ok) (f : FuncId) (g : ByteArray → Bool) : Prop := ∀ (s : ByteArray) (H : Heap), s.size ≤ maxLen → H.wf → EvF Tryd.prog ok f [.string s] H fun v H' => v = .bool (g s) ∧ HX H H'
def TellsU (ok : Ok) (f : FuncId) (g : Int → Bool) : Prop := ∀ (n : Int) (H : Heap), u64 n → H.wf → EvF Tryd.prog ok f [.int .u64 n] H fun v H' => v = .bool (g n) ∧ HX H H'

variable {ok : Ok}
set_option maxRecDepth 10000 in
set_option maxHeartbeats 4000000 in
theorem one_ev {utf num : ByteArray → Bool} {flt : Int → Bool} (hk : ∀ args H, ok.K 85 args H = none) (hm : ok.testBit 85 = true) (hU : TellsS ok 105 utf) (hN : TellsS ok 106 num) (hF : TellsU ok 107 flt)
    {t : Tm} {cs : List Value} {H : Heap} (r : RepT H t cs) (hw : H.wf) : EvF Tryd.prog ok 85 [.agg ⟨cs⟩] H fun v H' => v = .int .i64 (nodeE utf num flt t) ∧ HX H H' := by
  obtain ⟨a, c, cells, rfl, b1, b2, b3, b4, b5, rl⟩ := r.inv
  have hx := (HX.refl hw).new (some (Blk.row [Value.int IntKind.i64 t.kind, Value.string t.name, Value.string t.num, Value.int IntKind.u64 t.bits, Value.int IntKind.i64 t.var, Value.slice a t.args.length c] 26))
  refine EvF.enter (hk _ _) Tryd.func85 hm rfl ?_
  (repeat refine EvC.seq ?_); refine EvC.reg ?_; simp (config := { maxSteps := 2000000 }) (disch := first | omega | rfl) only [sA, initTm, dBox, Value.cells, one, if_true]
  (repeat refine EvC.seq ?_); refine EvC.reg ?_; simp (config := { maxSteps := 2000000 }) (disch := first | omega | rfl) only [sA, Nat.reduceEqDiff, reduceCtorEq, if_true, if_false, cutC, dFieldAddr_at fld26_0 one3, dLoad_one agg3]
  (repeat refine EvC.seq ?_); refine EvC.reg ?_; simp (config := { maxSteps := 2000000 }) (disch := first | omega | rfl) only [sA, Nat.reduceEqDiff, reduceCtorEq, if_true, if_false, cutC, dFieldAddr_at fld26_0 one3, dLoad_one agg3]
  (repeat refine EvC.seq ?_); refine EvC.reg ?_; simp (config := { maxSteps := 2000000 }) (disch := first | omega | rfl) only [sA, Nat.reduceEqDiff, reduceCtorEq, if_true, if_false, cutC, dFieldAddr_at fld26_0 one3, dLoad_one agg3]
  (repeat refine EvC.seq ?_); refine EvC.reg ?_; simp (config := { maxSteps := 2000000 }) (disch := first | omega | rfl) only [sA, Nat.reduceEqDiff, reduceCtorEq, if_true, if_false, cutC, dFieldAddr_at fld26_0 one3, dLoad_one agg3]
  (repeat refine EvC.seq ?_); refine EvC.reg ?_; simp (config := { maxSteps := 2000000 }) (disch := first | omega | rfl) only [sA, Nat.reduceEqDiff, reduceCtorEq, if_true, if_false, cutC, dFieldAddr_at fld26_0 one3, dLoad_one agg3]
  -- the kind
  refine EvC.frame (fun tm => tm.get 1 = some (.pointer (some ⟨H.next, 0, none⟩)) ∧ tm.get 3 = some (.bool (t.kind == 2)) ∧ tm.get 4 = some (.bool (t.kind == 5)) ∧ tm.get 5 = some (.bool (t.kind == 3)) ∧ tm.get 6 = some (.bool (t.kind == 4)) ∧ tm.get 7 = some (.bool (t.kind == 1))) ⟨by simp only [Tr.get_put, Nat.reduceEqDiff, reduceCtorEq, if_true, if_false], by simp only [Tr.get_put, Nat.reduceEqDiff, reduceCtorEq, if_true, if_false], by simp only [Tr.get_put, Nat.reduceEqDiff, reduceCtorEq, if_true, if_false], by simp only [Tr.get_put, Nat.reduceEqDiff, reduceCtorEq, if_true, if_false], by simp only [Tr.get_put, Nat.reduceEqDiff, reduceCtorEq, if_true, if_false], by simp only [Tr.get_put, Nat.reduceEqDiff, reduceCtorEq, if_true, if_false]⟩ ?_
  rintro tm ⟨g1, g3, g4, g5, g6, g7⟩
  refine EvC.seq ?_
  refine EvC.join (fun st => (1 ≤ t.kind ∧ t.kind ≤ 5) ∧ ∃ tm, st = ⟨tm, [], H.new (some (Blk.row [Value.int IntKind.i64 t.kind, Value.string t.name, Value.string t.num, Value.int IntKind.u64 t.bits, Value.int IntKind.i64 t.var, Value.slice a t.args.length c] 26))⟩ ∧ tm.get 1 = some (.pointer (some ⟨H.next, 0, none⟩)) ∧ tm.get 3 = some (.bool (t.kind == 2)) ∧ tm.get 4 = some (.bool (t.kind == 5)) ∧ tm.get 5 = some (.bool (t.kind == 3)) ∧ tm.get 6 = some (.bool (t.kind == 4)) ∧ tm.get 7 = some (.bool (t.kind == 1))) ?_ ?_
  · -- [
    have hk6 : t.kind = 1 ∨ t.kind = 2 ∨ t.kind = 3 ∨ t.kind = 4 ∨ t.kind = 5 ∨ (t.kind < 1 ∨ 5 < t.kind) := by omega
    rcases hk6 with h | h | h | h | h | h
    iterate 5
      · (repeat refine EvC.seq ?_); refine EvC.reg ?_; simp (config := { maxSteps := 2000000 }) (disch := first | omega | rfl) only [sA, Nat.reduceEqDiff, if_true, if_false, g3, g4, g5, g6, g7, h, Int.reduceBEq, Bool.not_true, Bool.not_false, Bool.false_eq_true]
        refine EvC.condF (by simp only [sA, Nat.reduceEqDiff, if_true, if_false]) (EvC.skip ?_)
        try simp (config := { maxSteps := 2000000 }) (disch := first | omega | rfl) only [thenC_normal]
        exact ⟨by omega, _, rfl, by simp only [Tr.get_put, Nat.reduceEqDiff, if_false, g1], by simp only [Tr.get_put, Nat.reduceEqDiff, if_false, g3, h, Int.reduceBEq], by simp only [Tr.get_put, Nat.reduceEqDiff, if_false, g4, h, Int.reduceBEq], by simp only [Tr.get_put, Nat.reduceEqDiff, if_false, g5, h, Int.reduceBEq], by simp only [Tr.get_put, Nat.reduceEqDiff, if_false, g6, h, Int.reduceBEq], by simp only [Tr.get_put, Nat.reduceEqDiff, if_false, g7, h, Int.reduceBEq]⟩
    · have q1 : (t.kind == 1) = false := by simp; omega
      have q2 : (t.kind == 2) = false := by simp; omega
      have q3 : (t.kind == 3) = false := by simp; omega
      have q4 : (t.kind == 4) = false := by simp; omega
      have q5 : (t.kind == 5) = false := by simp; omega
      (repeat refine EvC.seq ?_); refine EvC.reg ?_; simp (config := { maxSteps := 2000000 }) (disch := first | omega | rfl) only [sA, Nat.reduceEqDiff, if_true, if_false, g3, g4, g5, g6, g7, q1, q2, q3, q4, q5, Bool.not_false]
      refine EvC.condT (by simp only [sA, Nat.reduceEqDiff, if_true, if_false]) ?_
      (repeat refine EvC.seq ?_); refine EvC.reg ?_; simp (config := { maxSteps := 2000000 }) (disch := first | omega | rfl) only [sA]
      refine EvC.ret ?_
      try simp (config := { maxSteps := 2000000 }) (disch := first | omega | rfl) only [thenC_ret]
      exact leave_one rfl (by simp only [Tr.get_put, Nat.reduceEqDiff, if_true, if_false]; rfl) ⟨by rw [nodeE, if_pos h], hx⟩
    -- ]
  rintro st ⟨⟨hk1, hk5⟩, tm1, rfl, f1, f3, f4, f5, f6, f7⟩
  clear g1 g3 g4 g5 g6 g7 tm
  have hno : ¬ (t.kind < 1 ∨ 5 < t.kind) := by omega
  try simp (config := { maxSteps := 2000000 }) (disch := first | omega | rfl) only [thenC_normal]
  -- the fields that are not used
  refine EvC.seq ?_
  refine EvC.join (fun st => blankB t = true ∧ ∃ tm, st = ⟨tm, [], H.new (some (Blk.row [Value.int IntKind.i64 t.kind, Value.string t.name, Value.string t.num, Value.int IntKind.u64 t.bits, Value.int IntKind.i64 t.var, Value.slice a t.args.length c] 26))⟩ ∧ tm.get 1 = some (.pointer (some ⟨H.next, 0, none⟩)) ∧ tm.get 3 = some (.bool (t.kind == 2)) ∧ tm.get 4 = some (.bool (t.kind == 5)) ∧ tm.get 5 = some (.bool (t.kind == 3)) ∧ tm.get 6 = some (.bool (t.kind == 4)) ∧ tm.get 7 = some (.bool (t.kind == 1))) ?_ ?_
  · -- [
    refine EvC.seq (EvC.reg ?_)
    refine EL.join 11 (fun tm => tm.get 54 = some (.bool (!(t.name.toList == []) && (!(t.kind == 2) && !(t.kind == 5)))) ∧ tm.get 1 = some (.pointer (some ⟨H.next, 0, none⟩)) ∧ tm.get 3 = some (.bool (t.kind == 2)) ∧ tm.get 4 = some (.bool (t.kind == 5)) ∧ tm.get 5 = some (.bool (t.kind == 3)) ∧ tm.get 6 = some (.bool (t.kind == 4)) ∧ tm.get 7 = some (.bool (t.kind == 1))) ?_ ?_
    · cases h1 : (t.name.toList == []) <;> cases h2 : (t.kind == 2) <;> cases h3 : (t.kind == 5)
      all_goals
        try simp (config := { maxSteps := 2000000 }) (disch := first | omega | rfl) only [sA, Nat.reduceEqDiff, if_true, if_false, cutC, dBin_neqS, f1, f3, f4, f5, f6, f7, h1, h2, h3, dFieldAddr_at fld26_1 one9, dLoad_one agg9, toList_empty, Bool.not_true, Bool.not_false, Bool.false_eq_true, Bool.and_true, Bool.and_false]
    clear f1 f3 f4 f5 f6 f7
    rintro tm2 ⟨g, f1, f3, f4, f5, f6, f7⟩
    obtain ⟨x0, hy0⟩ : ∃ x, x = (!(t.name.toList == []) && (!(t.kind == 2) && !(t.kind == 5))) := ⟨_, rfl⟩
    rw [← hy0] at g
    refine EL.join 9 (fun tm => tm.get 63 = some (.bool (x0 || (!(t.num.toList == []) && !(t.kind == 3)))) ∧ tm.get 1 = some (.pointer (some ⟨H.next, 0, none⟩)) ∧ tm.get 3 = some (.bool (t.kind == 2)) ∧ tm.get 4 = some (.bool (t.kind == 5)) ∧ tm.get 5 = some (.bool (t.kind == 3)) ∧ tm.get 6 = some (.bool (t.kind == 4)) ∧ tm.get 7 = some (.bool (t.kind == 1))) ?_ ?_
    · clear hy0; cases h1 : (t.num.toList == []) <;> cases h2 : (t.kind == 3) <;> cases x0
      all_goals
        try simp (config := { maxSteps := 2000000 }) (disch := first | omega | rfl) only [sA, Nat.reduceEqDiff, if_true, if_false, cutC, dBin_neqS, g, f1, f3, f4, f5, f6, f7, h1, h2, dFieldAddr_at fld26_2 one9, dLoad_one agg9, toList_empty, Bool.not_true, Bool.not_false, Bool.false_eq_true, Bool.and_true, Bool.and_false, Bool.or_false, Bool.or_true]
    clear f1 f3 f4 f5 f6 f7 g
    rintro tm3 ⟨g, f1, f3, f4, f5, f6, f7⟩
    obtain ⟨x1, hx1⟩ : ∃ x, x = (x0 || (!(t.num.toList == []) && !(t.kind == 3))) := ⟨_, rfl⟩
    rw [← hx1] at g
    refine EL.join 9 (fun tm => tm.get 72 = some (.bool (x1 || (!(t.bits == 0) && !(t.kind == 4)))) ∧ tm.get 1 = some (.pointer (some ⟨H.next, 0, none⟩)) ∧ tm.get 3 = some (.bool (t.kind == 2)) ∧ tm.get 4 = some (.bool (t.kind == 5)) ∧ tm.get 5 = some (.bool (t.kind == 3)) ∧ tm.get 6 = some (.bool (t.kind == 4)) ∧ tm.get 7 = some (.bool (t.kind == 1))) ?_ ?_
    · clear hx1; cases h1 : (t.bits == 0) <;> cases h2 : (t.kind == 4) <;> cases x1
      all_goals
        try simp (config := { maxSteps := 2000000 }) (disch := first | omega | rfl) only [sA, Nat.reduceEqDiff, if_true, if_false, cutC, g, f1, f3, f4, f5, f6, f7, h1, h2, dFieldAddr_at fld26_3 one23, dLoad_one agg23, Bool.not_true, Bool.not_false, Bool.false_eq_true, bne, Bool.and_true, Bool.and_false, Bool.or_false, Bool.or_true]
    clear f1 f3 f4 f5 f6 f7 g
    rintro tm4 ⟨g, f1, f3, f4, f5, f6, f7⟩
    obtain ⟨x2, hx2⟩ : ∃ x, x = (x1 || (!(t.bits == 0) && !(t.kind == 4))) := ⟨_, rfl⟩
    rw [← hx2] at g
    refine EL.join 9 (fun tm => tm.get 81 = some (.bool (x2 || (!(t.var == 0) && !(t.kind == 1)))) ∧ tm.get 1 = some (.pointer (some ⟨H.next, 0, none⟩)) ∧ tm.get 3 = some (.bool (t.kind == 2)) ∧ tm.get 4 = some (.bool (t.kind == 5)) ∧ tm.get 5 = some (.bool (t.kind == 3)) ∧ tm.get 6 = some (.bool (t.kind == 4)) ∧ tm.get 7 = some (.bool (t.kind == 1))) ?_ ?_
    · clear hx2; cases h1 : (t.var == 0) <;> cases h2 : (t.kind == 1) <;> cases x2
      all_goals
        try simp (config := { maxSteps := 2000000 }) (disch := first | omega | rfl) only [sA, Nat.reduceEqDiff, if_true, if_false, cutC, g, f1, f3, f4, f5, f6, f7, h1, h2, dFieldAddr_at fld26_4 one3, dLoad_one agg3, Bool.not_true, Bool.not_false, Bool.false_eq_true, bne, Bool.and_true, Bool.and_false, Bool.or_false, Bool.or_true]
    clear f1 f3 f4 f5 f6 f7 g
    rintro tm5 ⟨g, f1, f3, f4, f5, f6, f7⟩
    obtain ⟨x3, hx3⟩ : ∃ x, x = (x2 || (!(t.var == 0) && !(t.kind == 1))) := ⟨_, rfl⟩
    rw [← hx3] at g
    refine EL.join 10 (fun tm => tm.get 91 = some (.bool (x3 || (decide ((t.args.length : Int) > 0) && !(t.kind == 5)))) ∧ tm.get 1 = some (.pointer (some ⟨H.next, 0, none⟩)) ∧ tm.get 3 = some (.bool (t.kind == 2)) ∧ tm.get 4 = some (.bool (t.kind == 5)) ∧ tm.get 5 = some (.bool (t.kind == 3)) ∧ tm.get 6 = some (.bool (t.kind == 4)) ∧ tm.get 7 = some (.bool (t.kind == 1))) ?_ ?_
    · clear hx3; cases h1 : decide ((t.args.length : Int) > 0) <;> cases h2 : (t.kind == 5) <;> cases x3
      all_goals
        try simp (config := { maxSteps := 2000000 }) (disch := first | omega | rfl) only [sA, Nat.reduceEqDiff, if_true, if_false, cutC, g, f1, f3, f4, f5, f6, f7, h1, h2, dFieldAddr_at fld26_5 one24, dLoad_one agg24, dLn_slice Tryd.underlying24, Bool.not_true, Bool.not_false, Bool.false_eq_true, Bool.and_true, Bool.and_false, Bool.or_false, Bool.or_true]
    clear f1 f3 f4 f5 f6 f7 g
    rintro tm6 ⟨g, f1, f3, f4, f5, f6, f7⟩
    obtain ⟨x4, hx4⟩ : ∃ x, x = (x3 || (decide ((t.args.length : Int) > 0) && !(t.kind == 5))) := ⟨_, rfl⟩
    rw [← hx4] at g
    try simp (config := { maxSteps := 2000000 }) (disch := first | omega | rfl) only [sA]
    have hb : blankB t = !x4 := by
      have hgt : ((t.args.length : Int) == 0) = !decide ((t.args.length : Int) > 0) := by
        rw [Bool.eq_iff_iff]; simp
      rw [hx4, hx3, hx2, hx1, hy0]
      unfold blankB isE
      rw [hgt]
      cases (t.name.toList == []) <;> cases (t.num.toList == []) <;> cases (t.bits == 0) <;> cases (t.var == 0) <;> cases decide ((t.args.length : Int) > 0) <;> cases (t.kind == 1) <;> cases (t.kind == 2) <;> cases (t.kind == 3) <;> cases (t.kind == 4) <;> cases (t.kind == 5) <;> rfl
    cases x4 with
    | true =>
      refine EvC.condT (by simp only [sA, g]) ?_
      (repeat refine EvC.seq ?_); refine EvC.reg ?_; simp (config := { maxSteps := 2000000 }) (disch := first | omega | rfl) only [sA]
      refine EvC.ret ?_
      try simp (config := { maxSteps := 2000000 }) (disch := first | omega | rfl) only [thenC_ret]
      exact leave_one rfl (by simp only [Tr.get_put, if_true]; rfl) ⟨by rw [nodeE, if_neg hno, if_pos (show blankB t = false from hb)], hx⟩
    | false =>
      refine EvC.condF (by simp only [sA, g]) (EvC.skip ?_)
      try simp (config := { maxSteps := 2000000 }) (disch := first | omega | rfl) only [thenC_normal]
      exact ⟨hb, _, rfl, f1, f3, f4, f5, f6, f7⟩
    -- ]
  rintro st ⟨hbl, tm, rfl, f1, f3, f4, f5, f6, f7⟩
  try simp (config := { maxSteps := 2000000 }) (disch := first | omega | rfl) only [thenC_normal]
  -- the bounds
  refine EvC.seq ?_
  refine EvC.join (fun st => bndB t = false ∧ ∃ tm, st = ⟨tm, [], H.new (some (Blk.row [Value.int IntKind.i64 t.kind, Value.string t.name, Value.string t.num, Value.int IntKind.u64 t.bits, Value.int IntKind.i64 t.var, Value.slice a t.args.length c] 26))⟩ ∧ tm.get 1 = some (.pointer (some ⟨H.next, 0, none⟩)) ∧ tm.get 3 = some (.bool (t.kind == 2)) ∧ tm.get 4 = some (.bool (t.kind == 5)) ∧ tm.get 5 = some (.bool (t.kind == 3)) ∧ tm.get 6 = some (.bool (t.kind == 4)) ∧ tm.get 7 = some (.bool (t.kind == 1))) ?_ ?_
  · -- [
    refine EvC.seq (EvC.reg ?_)
    cases h1 : decide (t.var < 0) <;> cases h2 : (t.kind == 5) <;> cases h3 : ((t.args.length : Int) == 0) <;> cases h4 : decide ((t.args.length : Int) > 64)
    all_goals
      try simp (config := { maxSteps := 2000000 }) (disch := first | omega | rfl) only [sA, Nat.reduceEqDiff, if_true, if_false, cutC, f1, f4, h1, h2, h3, h4, dFieldAddr_at fld26_4 one3, dFieldAddr_at fld26_5 one24, dLoad_one agg3, dLoad_one agg24, dLn_slice Tryd.underlying24, Bool.false_eq_true]
    all_goals
      first
      | (have hb : bndB t = true := by unfold bndB; rw [h1, h2, h3, h4]; rfl
         refine EvC.condT (by simp only [sA, Nat.reduceEqDiff, if_true, if_false]; done) ?_
         (repeat refine EvC.seq ?_); refine EvC.reg ?_; simp (config := { maxSteps := 2000000 }) (disch := first | omega | rfl) only [sA]
         refine EvC.ret ?_
         try simp (config := { maxSteps := 2000000 }) (disch := first | omega | rfl) only [thenC_ret]
         exact leave_one rfl (by simp only [Tr.get_put, Nat.reduceEqDiff, if_true, if_false]; rfl) ⟨by rw [nodeE_bnd hno hbl hb], hx⟩)
      | (have hb : bndB t = false := by unfold bndB; rw [h1, h2, h3, h4]; rfl
         refine EvC.condF (by simp only [sA, Nat.reduceEqDiff, if_true, if_false]; done) (EvC.skip ?_)
         try simp (config := { maxSteps := 2000000 }) (disch := first | omega | rfl) only [thenC_normal]
         exact ⟨hb, _, rfl, by simp only [Tr.get_put, Nat.reduceEqDiff, if_false]; exact f1, by simp only [Tr.get_put, Nat.reduceEqDiff, if_false]; exact f3, by simp only [Tr.get_put, Nat.reduceEqDiff, if_false, f4, h2], by simp only [Tr.get_put, Nat.reduceEqDiff, if_false]; exact f5, by simp only [Tr.get_put, Nat.reduceEqDiff, if_false]; exact f6, by simp only [Tr.get_put, Nat.reduceEqDiff, if_false]; exact f7⟩)
    -- ]
  rintro st ⟨hbd, tm, rfl, f1, f3, f4, f5, f6, f7⟩
  try simp (config := { maxSteps := 2000000 }) (disch := first | omega | rfl) only [thenC_normal]
  have hne := nodeE_rest (utf := utf) (num := num) (flt := flt) hno hbl hbd
  -- the name
  (repeat refine EvC.seq ?_); refine EvC.reg ?_; simp (config := { maxSteps := 2000000 }) (disch := first | omega | rfl) only [sA, Nat.reduceEqDiff, if_true, if_false, cutC, f1, dFieldAddr_at fld26_1 one9, dLoad_one agg9, dop_call call105]
  refine (hU t.name _ b2 hx.wf).mono ?_
  rintro v H2 ⟨rfl, hx2⟩
  have hxx := hx.trans hx2
  have hb2 : H2.get H.next = some (Blk.row [Value.int IntKind.i64 t.kind, Value.string t.name, Value.string t.num, Value.int IntKind.u64 t.bits, Value.int IntKind.i64 t.var, Value.slice a t.args.length c] 26) := by rw [hx2.keep _ (Nat.lt_succ_self _), Heap.get_new, if_pos rfl]
  have l1 : H2.load ⟨H.next, 1, none⟩ 1 = some [.string t.name] := by simp only [Heap.load, Heap.cells, hb2]; rfl
  have l2 : H2.load ⟨H.next, 2, none⟩ 1 = some [.string t.num] := by simp only [Heap.load, Heap.cells, hb2]; rfl
  have l3 : H2.load ⟨H.next, 3, none⟩ 1 = some [.int .u64 t.bits] := by simp only [Heap.load, Heap.cells, hb2]; rfl
  try simp (config := { maxSteps := 2000000 }) (disch := first | omega | rfl) only []
  refine EvC.frame (fun tm => tm.get 8 = some (.bool (utf t.name)) ∧ tm.get 1 = some (.pointer (some ⟨H.next, 0, none⟩)) ∧ tm.get 3 = some (.bool (t.kind == 2)) ∧ tm.get 4 = some (.bool (t.kind == 5)) ∧ tm.get 5 = some (.bool (t.kind == 3)) ∧ tm.get 6 = some (.bool (t.kind == 4)) ∧ tm.get 7 = some (.bool (t.kind == 1))) ⟨by simp only [Tr.get_put, Nat.reduceEqDiff, if_true, if_false], by simp only [Tr.get_put, Nat.reduceEqDiff, if_false]; exact f1, by simp only [Tr.get_put, Nat.reduceEqDiff, if_false]; exact f3, by simp only [Tr.get_put, Nat.reduceEqDiff, if_false]; exact f4, by simp only [Tr.get_put, Nat.reduceEqDiff, if_false]; exact f5, by simp only [Tr.get_put, Nat.reduceEqDiff, if_false]; exact f6, by simp only [Tr.get_put, Nat.reduceEqDiff, if_false]; exact f7⟩ ?_
  clear f1 f3 f4 f5 f6 f7
  rintro tm ⟨f8, f1, f3, f4, f5, f6, f7⟩
  cases hu : utf t.name with
  | false =>
    rw [hu] at f8
    (repeat refine EvC.seq ?_); refine EvC.reg ?_; simp (config := { maxSteps := 2000000 }) (disch := first | omega | rfl) only [sA, Nat.reduceEqDiff, if_true, if_false, f8, Bool.not_false]
    refine EvC.condT (by simp only [sA, Nat.reduceEqDiff, if_true, if_false]) ?_
    (repeat refine EvC.seq ?_); refine EvC.reg ?_; simp (config := { maxSteps := 2000000 }) (disch := first | omega | rfl) only [sA]
    refine EvC.ret ?_
    try simp (config := { maxSteps := 2000000 }) (disch := first | omega | rfl) only [thenC_ret]
    exact leave_one rfl (by simp only [Tr.get_put, Nat.reduceEqDiff, if_true, if_false]; rfl) ⟨by rw [hne, if_pos hu], hxx⟩
  | true =>
  rw [hu] at f8
  rw [if_neg (by rw [hu]; simp)] at hne
  by_cases hlen : 1000 < t.name.size
  · have hd : decide ((t.name.size : Int) > 1000) = true := decide_eq_true (by omega)
    (repeat refine EvC.seq ?_); refine EvC.reg ?_; simp (config := { maxSteps := 2000000 }) (disch := first | omega | rfl) only [sA, Nat.reduceEqDiff, if_true, if_false, f8, f1, l1, hd, dFieldAddr_at fld26_1 one9, dLoad_one agg9, dLn_string Tryd.underlying9, Bool.not_true, Bool.false_eq_true]
    refine EvC.condT (by simp only [sA, Nat.reduceEqDiff, if_true, if_false]) ?_
    (repeat refine EvC.seq ?_); refine EvC.reg ?_; simp (config := { maxSteps := 2000000 }) (disch := first | omega | rfl) only [sA]
    refine EvC.ret ?_
    try simp (config := { maxSteps := 2000000 }) (disch := first | omega | rfl) only [thenC_ret]
    exact leave_one rfl (by simp only [Tr.get_put, Nat.reduceEqDiff, if_true, if_false]; rfl) ⟨by rw [hne, if_pos hlen], hxx⟩
  rw [if_neg hlen] at hne
  have hd : decide ((t.name.size : Int) > 1000) = false := decide_eq_false (by omega)
  (repeat refine EvC.seq ?_); refine EvC.reg ?_; simp (config := { maxSteps := 2000000 }) (disch := first | omega | rfl) only [sA, Nat.reduceEqDiff, if_true, if_false, f8, f1, l1, hd, dFieldAddr_at fld26_1 one9, dLoad_one agg9, dLn_string Tryd.underlying9, Bool.not_true, Bool.false_eq_true]
  refine EvC.condF (by simp only [sA, Nat.reduceEqDiff, if_true, if_false]) (EvC.skip ?_)
  try simp (config := { maxSteps := 2000000 }) (disch := first | omega | rfl) only [thenC_normal]
  refine EvC.frame (fun tm => tm.get 1 = some (.pointer (some ⟨H.next, 0, none⟩)) ∧ tm.get 3 = some (.bool (t.kind == 2)) ∧ tm.get 4 = some (.bool (t.kind == 5)) ∧ tm.get 5 = some (.bool (t.kind == 3)) ∧ tm.get 6 = some (.bool (t.kind == 4)) ∧ tm.get 7 = some (.bool (t.kind == 1))) ⟨by simp only [Tr.get_put, Nat.reduceEqDiff, if_false]; exact f1, by simp only [Tr.get_put, Nat.reduceEqDiff, if_false]; exact f3, by simp only [Tr.get_put, Nat.reduceEqDiff, if_false]; exact f4, by simp only [Tr.get_put, Nat.reduceEqDiff, if_false]; exact f5, by simp only [Tr.get_put, Nat.reduceEqDiff, if_false]; exact f6, by simp only [Tr.get_put, Nat.reduceEqDiff, if_false]; exact f7⟩ ?_
  clear f1 f3 f4 f5 f6 f7 f8
  rintro tm ⟨f1, f3, f4, f5, f6, f7⟩
  -- an integer
  by_cases k3 : t.kind = 3
  · have q3 : (t.kind == 3) = true := by simp [k3]
    have q4 : (t.kind == 4) = false := by simp [k3]
    rw [q3] at f5
    rw [q4] at f6
    (repeat refine EvC.seq ?_); refine EvC.reg ?_; simp (config := { maxSteps := 2000000 }) (disch := first | omega | rfl) only [sA, f5]
    refine EvC.condT (by simp only [sA, if_true]) ?_
    (repeat refine EvC.seq ?_); refine EvC.reg ?_; simp (config := { maxSteps := 2000000 }) (disch := first | omega | rfl) only [sA, Nat.reduceEqDiff, if_true, if_false, f1, l2, dFieldAddr_at fld26_2 one9, dLoad_one agg9, dop_call call106]
    refine (hN t.num _ b3 hx2.wf).mono ?_
    rintro v H3 ⟨rfl, hx3⟩
    try simp (config := { maxSteps := 2000000 }) (disch := first | omega | rfl) only []
    (repeat refine EvC.seq ?_); refine EvC.reg ?_; simp (config := { maxSteps := 2000000 }) (disch := first | omega | rfl) only [sA, Nat.reduceEqDiff, if_true, if_false]
    cases hn : num t.num with
    | false =>
      refine EvC.condT (by simp only [sA, Nat.reduceEqDiff, if_true, if_false]; rfl) ?_
      (repeat refine EvC.seq ?_); refine EvC.reg ?_; simp (config := { maxSteps := 2000000 }) (disch := first | omega | rfl) only [sA]
      refine EvC.ret ?_
      try simp (config := { maxSteps := 2000000 }) (disch := first | omega | rfl) only [thenC_ret]
      exact leave_one rfl (by simp only [Tr.get_put, Nat.reduceEqDiff, if_true, if_false]; rfl) ⟨by rw [hne, if_pos ⟨k3, hn⟩], hxx.trans hx3⟩
    | true =>
      refine EvC.condF (by simp only [sA, Nat.reduceEqDiff, if_true, if_false]; rfl) (EvC.skip ?_)
      try simp (config := { maxSteps := 2000000 }) (disch := first | omega | rfl) only [thenC_normal]
      (repeat refine EvC.seq ?_); refine EvC.reg ?_; simp (config := { maxSteps := 2000000 }) (disch := first | omega | rfl) only [sA, Nat.reduceEqDiff, if_false, f6]
      refine EvC.condF (by simp only [sA, Nat.reduceEqDiff, if_true, if_false]) (EvC.skip ?_)
      try simp (config := { maxSteps := 2000000 }) (disch := first | omega | rfl) only [thenC_normal]
      (repeat refine EvC.seq ?_); refine EvC.reg ?_; simp (config := { maxSteps := 2000000 }) (disch := first | omega | rfl) only [sA]
      refine EvC.ret ?_
      try simp (config := { maxSteps := 2000000 }) (disch := first | omega | rfl) only []
      exact leave_one rfl (by simp only [Tr.get_put, Nat.reduceEqDiff, if_true, if_false]; rfl) ⟨by rw [hne, if_neg (by rw [hn]; simp), if_neg (by rw [k3]; simp)], hxx.trans hx3⟩
  have q3 : (t.kind == 3) = false := by simp [k3]
  rw [q3] at f5
  rw [if_neg (fun h => k3 h.1)] at hne
  (repeat refine EvC.seq ?_); refine EvC.reg ?_; simp (config := { maxSteps := 2000000 }) (disch := first | omega | rfl) only [sA, f5]
  refine EvC.condF (by simp only [sA, if_true]) (EvC.skip ?_)
  try simp (config := { maxSteps := 2000000 }) (disch := first | omega | rfl) only [thenC_normal]
  -- a float
  by_cases k4 : t.kind = 4
  · have q4 : (t.kind == 4) = true := by simp [k4]
    rw [q4] at f6
    (repeat refine EvC.seq ?_); refine EvC.reg ?_; simp (config := { maxSteps := 2000000 }) (disch := first | omega | rfl) only [sA, Nat.reduceEqDiff, if_false, f6]
    refine EvC.condT (by simp only [sA, Nat.reduceEqDiff, if_true, if_false]) ?_
    (repeat refine EvC.seq ?_); refine EvC.reg ?_; simp (config := { maxSteps := 2000000 }) (disch := first | omega | rfl) only [sA, Nat.reduceEqDiff, if_true, if_false, f1, l3, dFieldAddr_at fld26_3 one23, dLoad_one agg23, dop_call call107]
    refine (hF t.bits _ b4 hx2.wf).mono ?_
    rintro v H3 ⟨rfl, hx3⟩
    try simp (config := { maxSteps := 2000000 }) (disch := first | omega | rfl) only []
    (repeat refine EvC.seq ?_); refine EvC.reg ?_; simp (config := { maxSteps := 2000000 }) (disch := first | omega | rfl) only [sA, Nat.reduceEqDiff, if_true, if_false]
    cases hn : flt t.bits with
    | false =>
      refine EvC.condT (by simp only [sA, Nat.reduceEqDiff, if_true, if_false]; rfl) ?_
      (repeat refine EvC.seq ?_); refine EvC.reg ?_; simp (config := { maxSteps := 2000000 }) (disch := first | omega | rfl) only [sA]
      refine EvC.ret ?_
      try simp (config := { maxSteps := 2000000 }) (disch := first | omega | rfl) only [thenC_ret]
      exact leave_one rfl (by simp only [Tr.get_put, Nat.reduceEqDiff, if_true, if_false]; rfl) ⟨by rw [hne, if_pos ⟨k4, hn⟩], hxx.trans hx3⟩
    | true =>
      refine EvC.condF (by simp only [sA, Nat.reduceEqDiff, if_true, if_false]; rfl) (EvC.skip ?_)
      try simp (config := { maxSteps := 2000000 }) (disch := first | omega | rfl) only [thenC_normal]
      (repeat refine EvC.seq ?_); refine EvC.reg ?_; simp (config := { maxSteps := 2000000 }) (disch := first | omega | rfl) only [sA]
      refine EvC.ret ?_
      try simp (config := { maxSteps := 2000000 }) (disch := first | omega | rfl) only []
      exact leave_one rfl (by simp only [Tr.get_put, Nat.reduceEqDiff, if_true, if_false]; rfl) ⟨by rw [hne, if_neg (by rw [hn]; simp)], hxx.trans hx3⟩
  have q4 : (t.kind == 4) = false := by simp [k4]
  rw [q4] at f6
  (repeat refine EvC.seq ?_); refine EvC.reg ?_; simp (config := { maxSteps := 2000000 }) (disch := first | omega | rfl) only [sA, Nat.reduceEqDiff, if_false, f6]
  refine EvC.condF (by simp only [sA, Nat.reduceEqDiff, if_true, if_false]) (EvC.skip ?_)
  try simp (config := { maxSteps := 2000000 }) (disch := first | omega | rfl) only [thenC_normal]
  (repeat refine EvC.seq ?_); refine EvC.reg ?_; simp (config := { maxSteps := 2000000 }) (disch := first | omega | rfl) only [sA]
  refine EvC.ret ?_
  try simp (config := { maxSteps := 2000000 }) (disch := first | omega | rfl) only []
  exact leave_one rfl (by simp only [Tr.get_put, Nat.reduceEqDiff, if_true, if_false]; rfl) ⟨by rw [hne, if_neg (fun h => k4 h.1)], hxx⟩
end Go.Proofs.YtlllbkjiadcloaaDoor.hb
end

-- W5a
section
/- math.Float64frombits, a function without a body. -/
namespace Go.Proofs.YtlllbkjiadcloaaDoor.hb
open Go Go.RowKit Go.Hb

def rho0 (n : Int) : Operand → Value
  | .func f => .func (.func f) #[] #[]
  | _ => .int .u64 n
theorem frombits_run (n : Int) (d : Option Tmp) (k : Tmp) (ats : Array TypeId) (ty : TypeId) (pos : String) (af : Array Edge) (g : Option (Nat × Bool)) :
    pureRun Tryd.prog (execOp (rho0 n) ⟨d, .call ⟨.value (.func 89), #[.tmp k], ats⟩, ty, pos, af, g⟩) = some (.value (.float .f64 n.toNat)) := by kernel_rfl
theorem nocall89 (l : List Value) : dcall1 Tryd.prog 89 l = none := by
  unfold dcall1
  rw [Tryd.func89]
  rfl
theorem dop_frombits {d : Option Tmp} {k : Tmp} {ats : Array TypeId} {ty : TypeId} {pos : String} {af : Array Edge} {g : Option (Nat × Bool)} {tm : Tr Value} {H : Heap} {n : Int} (hv : tm.get k = some (.int .u64 n)) :
    dop Tryd.prog ⟨d, .call ⟨.value (.func 89), #[.tmp k], ats⟩, ty, pos, af, g⟩ (ev tm) H = some (.val (.float .f64 n.toNat) H) := by
  have hρ : ∀ y ∈ (⟨d, .call ⟨.value (.func 89), #[.tmp k], ats⟩, ty, pos, af, g⟩ : Oper).op.operands, ev tm y = rho0 n y := by
    intro y hy
    simp [Op.operands, Call.operands] at hy
    rcases hy with rfl | rfl
    · rfl
    · show (tm.get k).getD junk = _
      rw [hv]; rfl
  have e : dop Tryd.prog ⟨d, .call ⟨.value (.func 89), #[.tmp k], ats⟩, ty, pos, af, g⟩ (ev tm) H = dflat Tryd.prog ⟨d, .call ⟨.value (.func 89), #[.tmp k], ats⟩, ty, pos, af, g⟩ (ev tm) H := by
    simp only [dop, ev, nocall89]
  have hf : allFlat (ev tm) (⟨d, .call ⟨.value (.func 89), #[.tmp k], ats⟩, ty, pos, af, g⟩ : Oper) = true := by
    unfold allFlat
    rw [List.all_eq_true]
    intro y hy
    rw [hρ y (Array.mem_toList_iff.1 hy)]
    simp [Op.operands, Call.operands] at hy
    rcases hy with rfl | rfl <;> rfl
  rw [e]
  unfold dflat
  rw [hf, execOp_congr _ (by intro cs b h; cases h) hρ, frombits_run]
  rfl
end Go.Proofs.YtlllbkjiadcloaaDoor.hb
end

-- W5
section
/- A node by itself: the program's 'node'. -/
namespace Go.Proofs.YtlllbkjiadcloaaDoor.hb
open Go Go.RowKit Go.Hb

/-- a float's bits, as the program looks at them: by three calls -/
def TellsN (ok : Ok) (f g h : FuncId) (fn fi : Int → Bool) : Prop := ∀ (n : Int) (H : Heap) , u64 n → H.wf → EvF Tryd.prog ok g [.float .f64 n.toNat] H (fun v H' => v = .bool (fn n) ∧ HX H H') ∧ EvF Tryd.prog ok h [.float .f64 n.toNat, .int .i64 0] H (fun v H' => v = .bool (fi n) ∧ HX H H')

theorem call103 : callable Tryd.prog 103 = true := by kernel_rfl
theorem call104 : callable Tryd.prog 104 = true := by kernel_rfl

variable {ok : Ok}
set_option maxRecDepth 10000 in
set_option maxHeartbeats 8000000 in
theorem node_ev {utf num : ByteArray → Bool} {fn fi : Int → Bool} (hk : ∀ args H, ok.K 84 args H = none) (hm : ok.testBit 84 = true) (hk2 : ∀ args H, ok.K 100 args H = none) (hm2 : ok.testBit 100 = true)
    (hU : TellsS ok 101 utf) (hN : TellsS ok 102 num) (hF : TellsN ok 89 103 104 fn fi)
    {t : Tm} {cs : List Value} {H : Heap} (r : RepT H t cs) (hw : H.wf) : EvF Tryd.prog ok 84 [.agg ⟨cs⟩] H fun v H' => v = .int .i64 (nodeE utf num (fun n => !(fn n || fi n || n == 9223372036854775808)) t) ∧ HX H H' := by
  have rr := r
  obtain ⟨a, c, cells, rfl, b1, b2, b3, b4, b5, rl⟩ := r.inv
  have hx := (HX.refl hw).new (some (Blk.row [Value.int IntKind.i64 t.kind, Value.string t.name, Value.string t.num, Value.int IntKind.u64 t.bits, Value.int IntKind.i64 t.var, Value.slice a t.args.length c] 26))
  refine EvF.enter (hk _ _) Tryd.func84 hm rfl ?_
  (repeat refine EvC.seq ?_); refine EvC.reg ?_; simp (config := { maxSteps := 2000000 }) (disch := first | omega | rfl) only [sA, initTm, dBox, Value.cells, one, if_true]
  (repeat refine EvC.seq ?_); refine EvC.block ?_
  -- the kind
  refine EvC.seq (EvC.reg ?_)
  by_cases hno : t.kind < 1 ∨ 5 < t.kind
  · have hlt : decide (t.kind < 1) = true ∨ (decide (t.kind < 1) = false ∧ decide (t.kind > 5) = true) := by
      by_cases h : t.kind < 1
      · exact .inl (by simp [h])
      · exact .inr ⟨by simp [h], by simp; omega⟩
    rcases hlt with h | ⟨h, h'⟩
    · try simp (config := { maxSteps := 2000000 }) (disch := first | omega | rfl) only [sA, Nat.reduceEqDiff, reduceCtorEq, if_true, if_false, cutC, h, dFieldAddr_at fld26_0 one3, dLoad_one agg3]
      refine EvC.condT (by simp only [sA, Nat.reduceEqDiff, reduceCtorEq, if_true, if_false]) ?_
      (repeat refine EvC.seq ?_); refine EvC.reg ?_; simp (config := { maxSteps := 2000000 }) (disch := first | omega | rfl) only [sA]
      refine EvC.ret ?_
      try simp (config := { maxSteps := 2000000 }) (disch := first | omega | rfl) only [sA]
      exact leave_one rfl (by simp only [Tr.get_put, Nat.reduceEqDiff, reduceCtorEq, if_true, if_false]; rfl) ⟨by rw [nodeE, if_pos hno], hx⟩
    · try simp (config := { maxSteps := 2000000 }) (disch := first | omega | rfl) only [sA, Nat.reduceEqDiff, reduceCtorEq, if_true, if_false, cutC, h, h', dFieldAddr_at fld26_0 one3, dLoad_one agg3, Bool.false_eq_true]
      refine EvC.condT (by simp only [sA, Nat.reduceEqDiff, reduceCtorEq, if_true, if_false]) ?_
      (repeat refine EvC.seq ?_); refine EvC.reg ?_; simp (config := { maxSteps := 2000000 }) (disch := first | omega | rfl) only [sA]
      refine EvC.ret ?_
      try simp (config := { maxSteps := 2000000 }) (disch := first | omega | rfl) only [sA]
      exact leave_one rfl (by simp only [Tr.get_put, Nat.reduceEqDiff, reduceCtorEq, if_true, if_false]; rfl) ⟨by rw [nodeE, if_pos hno], hx⟩
  have q1 : decide (t.kind < 1) = false := by simp; omega
  have q2 : decide (t.kind > 5) = false := by simp; omega
  try simp (config := { maxSteps := 2000000 }) (disch := first | omega | rfl) only [sA, Nat.reduceEqDiff, Nat.reduceAdd, reduceCtorEq, if_true, if_false, cutC, q1, q2, dFieldAddr_at fld26_0 one3, dLoad_one agg3, Bool.false_eq_true, dLoad_agg agg26, cells26, dop_call call100]
  refine (blank_ev hk2 hm2 (rr.mono hx hw) hx.wf).mono ?_
  rintro v H2 ⟨rfl, hx2⟩
  have hxx := hx.trans hx2
  have hb2 : H2.get H.next = some (Blk.row [Value.int IntKind.i64 t.kind, Value.string t.name, Value.string t.num, Value.int IntKind.u64 t.bits, Value.int IntKind.i64 t.var, Value.slice a t.args.length c] 26) := by rw [hx2.keep _ (Nat.lt_succ_self _), Heap.get_new, if_pos rfl]
  have l0 : H2.load ⟨H.next, 0, none⟩ 1 = some [.int .i64 t.kind] := by simp only [Heap.load, Heap.cells, hb2]; rfl
  have l1 : H2.load ⟨H.next, 1, none⟩ 1 = some [.string t.name] := by simp only [Heap.load, Heap.cells, hb2]; rfl
  have l2 : H2.load ⟨H.next, 2, none⟩ 1 = some [.string t.num] := by simp only [Heap.load, Heap.cells, hb2]; rfl
  have l3 : H2.load ⟨H.next, 3, none⟩ 1 = some [.int .u64 t.bits] := by simp only [Heap.load, Heap.cells, hb2]; rfl
  have l4 : H2.load ⟨H.next, 4, none⟩ 1 = some [.int .i64 t.var] := by simp only [Heap.load, Heap.cells, hb2]; rfl
  have l5 : H2.load ⟨H.next, 5, none⟩ 1 = some [.slice a t.args.length c] := by simp only [Heap.load, Heap.cells, hb2]; rfl
  cases hbl : blankB t with
  | false =>
    try simp (config := { maxSteps := 2000000 }) (disch := first | omega | rfl) only [sA, Nat.reduceEqDiff, reduceCtorEq, if_true, if_false, Bool.not_false, Bool.false_eq_true]
    refine EvC.condT (by simp only [sA, Nat.reduceEqDiff, reduceCtorEq, if_true, if_false]) ?_
    (repeat refine EvC.seq ?_); refine EvC.reg ?_; simp (config := { maxSteps := 2000000 }) (disch := first | omega | rfl) only [sA]
    refine EvC.ret ?_
    try simp (config := { maxSteps := 2000000 }) (disch := first | omega | rfl) only [sA]
    exact leave_one rfl (by simp only [Tr.get_put, Nat.reduceEqDiff, reduceCtorEq, if_true, if_false]; rfl) ⟨by rw [nodeE, if_neg hno, if_pos hbl], hxx⟩
  | true =>
  by_cases hv : t.var < 0
  · have hd : decide (t.var < 0) = true := decide_eq_true hv
    try simp (config := { maxSteps := 2000000 }) (disch := first | omega | rfl) only [sA, Nat.reduceEqDiff, reduceCtorEq, if_true, if_false, l4, hd, dFieldAddr_at fld26_4 one3, dLoad_one agg3, Bool.not_true, Bool.false_eq_true]
    refine EvC.condT (by simp only [sA, Nat.reduceEqDiff, reduceCtorEq, if_true, if_false]) ?_
    (repeat refine EvC.seq ?_); refine EvC.reg ?_; simp (config := { maxSteps := 2000000 }) (disch := first | omega | rfl) only [sA]
    refine EvC.ret ?_
    try simp (config := { maxSteps := 2000000 }) (disch := first | omega | rfl) only [sA]
    exact leave_one rfl (by simp only [Tr.get_put, Nat.reduceEqDiff, reduceCtorEq, if_true, if_false]; rfl) ⟨by rw [nodeE_bnd hno hbl (by unfold bndB; rw [hd]; rfl)], hxx⟩
  have hd : decide (t.var < 0) = false := decide_eq_false hv
  try simp (config := { maxSteps := 2000000 }) (disch := first | omega | rfl) only [sA, Nat.reduceEqDiff, reduceCtorEq, if_true, if_false, l4, hd, dFieldAddr_at fld26_4 one3, dLoad_one agg3, Bool.not_true, Bool.false_eq_true]
  refine EvC.condF (by simp only [sA, Nat.reduceEqDiff, reduceCtorEq, if_true, if_false]) ?_
  refine EvC.frame (fun tm => tm.get 1 = some (.pointer (some ⟨H.next, 0, none⟩))) (by simp only [Tr.get_put, Nat.reduceEqDiff, reduceCtorEq, if_true, if_false]) ?_
  rintro tm g1
  -- the arguments
  refine EvC.seq ?_
  refine EvC.join (fun st => ∃ tm, st = ⟨tm, [], H2⟩ ∧ tm.get 1 = some (.pointer (some ⟨H.next, 0, none⟩)) ∧ tm.get 23 = some (.bool (t.kind == 5 && ((t.args.length : Int) == 0 || decide ((t.args.length : Int) > 64))))) ?_ ?_
  · refine EvC.reg ?_
    cases h2 : (t.kind == 5) <;> cases h3 : ((t.args.length : Int) == 0) <;> cases h4 : decide ((t.args.length : Int) > 64)
    all_goals
      try simp (config := { maxSteps := 2000000 }) (disch := first | omega | rfl) only [sA, Nat.reduceEqDiff, if_true, if_false, g1, l0, l5, h2, h3, h4, dFieldAddr_at fld26_0 one3, dFieldAddr_at fld26_5 one24, dLoad_one agg3, dLoad_one agg24, dLn_slice Tryd.underlying24, Bool.false_eq_true]
      exact ⟨_, rfl, by simp only [Tr.get_put, Nat.reduceEqDiff, if_false]; exact g1, by simp only [Tr.get_put, Nat.reduceEqDiff, if_true, if_false]; rfl⟩
  clear g1 tm
  rintro st ⟨tm, rfl, g1, g23⟩
  try simp (config := { maxSteps := 2000000 }) (disch := first | omega | rfl) only [thenC_normal]
  cases hbad : (t.kind == 5 && ((t.args.length : Int) == 0 || decide ((t.args.length : Int) > 64))) with
  | true =>
    rw [hbad] at g23
    refine EvC.condT (by simp only [sA, g23]) ?_
    (repeat refine EvC.seq ?_); refine EvC.reg ?_; simp (config := { maxSteps := 2000000 }) (disch := first | omega | rfl) only [sA]
    refine EvC.ret ?_
    try simp (config := { maxSteps := 2000000 }) (disch := first | omega | rfl) only [sA]
    exact leave_one rfl (by simp only [Tr.get_put, if_true]; rfl) ⟨by rw [nodeE_bnd hno hbl (by unfold bndB; rw [hd, hbad]; rfl)], hxx⟩
  | false =>
  rw [hbad] at g23
  have hne := nodeE_rest (utf := utf) (num := num) (flt := fun n => !(fn n || fi n || n == 9223372036854775808)) hno hbl (by unfold bndB; rw [hd, hbad]; rfl)
  refine EvC.condF (by simp only [sA, g23]) ?_
  -- the name
  (repeat refine EvC.seq ?_); refine EvC.reg ?_; simp (config := { maxSteps := 2000000 }) (disch := first | omega | rfl) only [sA, Nat.reduceEqDiff, if_true, if_false, g1, l1, dFieldAddr_at fld26_1 one9, dLoad_one agg9, dop_call call101]
  refine (hU t.name _ b2 hx2.wf).mono ?_
  rintro v H3 ⟨rfl, hx3⟩
  have hxx3 := hxx.trans hx3
  have hlt2 : H.next < H2.next := Nat.lt_of_lt_of_le (Nat.lt_succ_self _) hx2.next
  have hb3 : H3.get H.next = some (Blk.row [Value.int IntKind.i64 t.kind, Value.string t.name, Value.string t.num, Value.int IntKind.u64 t.bits, Value.int IntKind.i64 t.var, Value.slice a t.args.length c] 26) := by rw [hx3.keep _ hlt2]; exact hb2
  have m0 : H3.load ⟨H.next, 0, none⟩ 1 = some [.int .i64 t.kind] := by simp only [Heap.load, Heap.cells, hb3]; rfl
  have m1 : H3.load ⟨H.next, 1, none⟩ 1 = some [.string t.name] := by simp only [Heap.load, Heap.cells, hb3]; rfl
  have m2 : H3.load ⟨H.next, 2, none⟩ 1 = some [.string t.num] := by simp only [Heap.load, Heap.cells, hb3]; rfl
  have m3 : H3.load ⟨H.next, 3, none⟩ 1 = some [.int .u64 t.bits] := by simp only [Heap.load, Heap.cells, hb3]; rfl
  cases hu : utf t.name with
  | false =>
    try simp (config := { maxSteps := 2000000 }) (disch := first | omega | rfl) only [sA, Nat.reduceEqDiff, if_true, if_false, Bool.not_false]
    refine EvC.condT (by simp only [sA, Nat.reduceEqDiff, if_true, if_false]) ?_
    (repeat refine EvC.seq ?_); refine EvC.reg ?_; simp (config := { maxSteps := 2000000 }) (disch := first | omega | rfl) only [sA]
    refine EvC.ret ?_
    try simp (config := { maxSteps := 2000000 }) (disch := first | omega | rfl) only [sA]
    exact leave_one rfl (by simp only [Tr.get_put, Nat.reduceEqDiff, if_true, if_false]; rfl) ⟨by rw [hne, if_pos hu], hxx3⟩
  | true =>
  rw [if_neg (by rw [hu]; simp)] at hne
  by_cases hlen : 1000 < t.name.size
  · have hd : decide ((t.name.size : Int) > 1000) = true := decide_eq_true (by omega)
    try simp (config := { maxSteps := 2000000 }) (disch := first | omega | rfl) only [sA, Nat.reduceEqDiff, if_true, if_false, g1, m1, hd, dFieldAddr_at fld26_1 one9, dLoad_one agg9, dLn_string Tryd.underlying9, Bool.not_true, Bool.false_eq_true]
    refine EvC.condT (by simp only [sA, Nat.reduceEqDiff, if_true, if_false]) ?_
    (repeat refine EvC.seq ?_); refine EvC.reg ?_; simp (config := { maxSteps := 2000000 }) (disch := first | omega | rfl) only [sA]
    refine EvC.ret ?_
    try simp (config := { maxSteps := 2000000 }) (disch := first | omega | rfl) only [sA]
    exact leave_one rfl (by simp only [Tr.get_put, Nat.reduceEqDiff, if_true, if_false]; rfl) ⟨by rw [hne, if_pos hlen], hxx3⟩
  rw [if_neg hlen] at hne
  have hd2 : decide ((t.name.size : Int) > 1000) = false := decide_eq_false (by omega)
  try simp (config := { maxSteps := 2000000 }) (disch := first | omega | rfl) only [sA, Nat.reduceEqDiff, if_true, if_false, g1, m1, hd2, dFieldAddr_at fld26_1 one9, dLoad_one agg9, dLn_string Tryd.underlying9, Bool.not_true, Bool.false_eq_true]
  refine EvC.condF (by simp only [sA, Nat.reduceEqDiff, if_true, if_false]) ?_
  refine EvC.frame (fun tm => tm.get 1 = some (.pointer (some ⟨H.next, 0, none⟩))) (by simp only [Tr.get_put, Nat.reduceEqDiff, if_false]; exact g1) ?_
  clear g1 g23 tm
  rintro tm g1
  -- an integer
  refine EvC.seq (EvC.reg ?_)
  by_cases k3 : t.kind = 3
  · have q3 : (t.kind == 3) = true := by simp [k3]
    have q4 : (t.kind == 4) = false := by simp [k3]
    try simp (config := { maxSteps := 2000000 }) (disch := first | omega | rfl) only [sA, Nat.reduceEqDiff, if_true, if_false, g1, m0, m2, q3, dFieldAddr_at fld26_0 one3, dFieldAddr_at fld26_2 one9, dLoad_one agg9, dLoad_one agg3, dop_call call102]
    refine (hN t.num _ b3 hx3.wf).mono ?_
    rintro v H4 ⟨rfl, hx4⟩
    have hb4 : H4.get H.next = some (Blk.row [Value.int IntKind.i64 t.kind, Value.string t.name, Value.string t.num, Value.int IntKind.u64 t.bits, Value.int IntKind.i64 t.var, Value.slice a t.args.length c] 26) := by rw [hx4.keep _ (Nat.lt_of_lt_of_le hlt2 hx3.next)]; exact hb3
    have n0 : H4.load ⟨H.next, 0, none⟩ 1 = some [.int .i64 t.kind] := by simp only [Heap.load, Heap.cells, hb4]; rfl
    cases hn : num t.num with
    | false =>
      try simp (config := { maxSteps := 2000000 }) (disch := first | omega | rfl) only [sA, Nat.reduceEqDiff, if_true, if_false, Bool.not_false]
      refine EvC.condT (by simp only [sA, Nat.reduceEqDiff, if_true, if_false]) ?_
      (repeat refine EvC.seq ?_); refine EvC.reg ?_; simp (config := { maxSteps := 2000000 }) (disch := first | omega | rfl) only [sA]
      refine EvC.ret ?_
      try simp (config := { maxSteps := 2000000 }) (disch := first | omega | rfl) only [sA]
      exact leave_one rfl (by simp only [Tr.get_put, Nat.reduceEqDiff, if_true, if_false]; rfl) ⟨by rw [hne, if_pos ⟨k3, hn⟩], hxx3.trans hx4⟩
    | true =>
      try simp (config := { maxSteps := 2000000 }) (disch := first | omega | rfl) only [sA, Nat.reduceEqDiff, if_true, if_false, Bool.not_true]
      refine EvC.condF (by simp only [sA, Nat.reduceEqDiff, if_true, if_false]) (EvC.skip ?_)
      try simp (config := { maxSteps := 2000000 }) (disch := first | omega | rfl) only [sA]
      (repeat refine EvC.seq ?_); refine EvC.reg ?_; simp (config := { maxSteps := 2000000 }) (disch := first | omega | rfl) only [sA, Nat.reduceEqDiff, if_true, if_false, g1, n0, q4, dFieldAddr_at fld26_0 one3, dLoad_one agg3]
      refine EvC.condF (by simp only [sA, Nat.reduceEqDiff, if_true, if_false]) (EvC.skip ?_)
      try simp (config := { maxSteps := 2000000 }) (disch := first | omega | rfl) only [thenC_normal]
      (repeat refine EvC.seq ?_); refine EvC.reg ?_; simp (config := { maxSteps := 2000000 }) (disch := first | omega | rfl) only [sA]
      refine EvC.ret ?_
      try simp (config := { maxSteps := 2000000 }) (disch := first | omega | rfl) only []
      exact leave_one rfl (by simp only [Tr.get_put, Nat.reduceEqDiff, if_true, if_false]; rfl) ⟨by rw [hne, if_neg (by rw [hn]; simp), if_neg (by rw [k3]; simp)], hxx3.trans hx4⟩
  have q3 : (t.kind == 3) = false := by simp [k3]
  rw [if_neg (fun h => k3 h.1)] at hne
  try simp (config := { maxSteps := 2000000 }) (disch := first | omega | rfl) only [sA, Nat.reduceEqDiff, if_true, if_false, g1, m0, q3, dFieldAddr_at fld26_0 one3, dLoad_one agg3, Bool.false_eq_true]
  refine EvC.condF (by simp only [sA, Nat.reduceEqDiff, if_true, if_false]) (EvC.skip ?_)
  try simp (config := { maxSteps := 2000000 }) (disch := first | omega | rfl) only [sA]
  -- a float
  by_cases k4 : t.kind = 4
  · have q4 : (t.kind == 4) = true := by simp [k4]
    (repeat refine EvC.seq ?_); refine EvC.reg ?_; simp (config := { maxSteps := 2000000 }) (disch := first | omega | rfl) only [sA, Nat.reduceEqDiff, if_true, if_false, g1, m0, q4, dFieldAddr_at fld26_0 one3, dLoad_one agg3]
    refine EvC.condT (by simp only [sA, Nat.reduceEqDiff, if_true, if_false]) ?_
    (repeat refine EvC.seq ?_); refine EvC.reg ?_; simp (config := { maxSteps := 2000000 }) (disch := first | omega | rfl) only [sA, Nat.reduceEqDiff, if_true, if_false, g1, m3, dFieldAddr_at fld26_3 one23, dLoad_one agg23]
    rw [dop_frombits (n := t.bits) (by simp only [Tr.get_put, Nat.reduceEqDiff, if_true, if_false])]
    try simp (config := { maxSteps := 2000000 }) (disch := first | omega | rfl) only [sA, Nat.reduceEqDiff, if_true, if_false]
    refine EvC.frame (fun tm => tm.get 1 = some (.pointer (some ⟨H.next, 0, none⟩)) ∧ tm.get 3 = some (.float .f64 t.bits.toNat)) ⟨by simp only [Tr.get_put, Nat.reduceEqDiff, if_false]; exact g1, by simp only [Tr.get_put, Nat.reduceEqDiff, if_true, if_false]⟩ ?_
    clear g1 tm
    rintro tm ⟨g1, g3⟩
    (repeat refine EvC.seq ?_); refine EvC.reg ?_; simp (config := { maxSteps := 2000000 }) (disch := first | omega | rfl) only [sA, Nat.reduceEqDiff, if_true, if_false, g3, dop_call call103]
    refine (hF t.bits _ b4 hx3.wf).1.mono ?_
    rintro v H4 ⟨rfl, hx4⟩
    have hb4 : H4.get H.next = some (Blk.row [Value.int IntKind.i64 t.kind, Value.string t.name, Value.string t.num, Value.int IntKind.u64 t.bits, Value.int IntKind.i64 t.var, Value.slice a t.args.length c] 26) := by rw [hx4.keep _ (Nat.lt_of_lt_of_le hlt2 hx3.next)]; exact hb3
    cases hn : fn t.bits with
    | true =>
      try simp (config := { maxSteps := 2000000 }) (disch := first | omega | rfl) only [sA, Nat.reduceEqDiff, if_true, if_false]
      refine EvC.condT (by simp only [sA, Nat.reduceEqDiff, if_true, if_false]) ?_
      (repeat refine EvC.seq ?_); refine EvC.reg ?_; simp (config := { maxSteps := 2000000 }) (disch := first | omega | rfl) only [sA]
      refine EvC.ret ?_
      try simp (config := { maxSteps := 2000000 }) (disch := first | omega | rfl) only [thenC_ret]
      exact leave_one rfl (by simp only [Tr.get_put, Nat.reduceEqDiff, if_true, if_false]; rfl) ⟨by rw [hne, if_pos ⟨k4, by rw [hn]; rfl⟩], hxx3.trans hx4⟩
    | false =>
    try simp (config := { maxSteps := 2000000 }) (disch := first | omega | rfl) only [sA, Nat.reduceEqDiff, if_true, if_false, g3, Bool.false_eq_true, dop_call call104]
    refine (hF t.bits _ b4 hx4.wf).2.mono ?_
    rintro v H5 ⟨rfl, hx5⟩
    have hb5 : H5.get H.next = some (Blk.row [Value.int IntKind.i64 t.kind, Value.string t.name, Value.string t.num, Value.int IntKind.u64 t.bits, Value.int IntKind.i64 t.var, Value.slice a t.args.length c] 26) := by rw [hx5.keep _ (Nat.lt_of_lt_of_le (Nat.lt_of_lt_of_le hlt2 hx3.next) hx4.next)]; exact hb4
    have n3 : H5.load ⟨H.next, 3, none⟩ 1 = some [.int .u64 t.bits] := by simp only [Heap.load, Heap.cells, hb5]; rfl
    cases hi : fi t.bits with
    | true =>
      try simp (config := { maxSteps := 2000000 }) (disch := first | omega | rfl) only [sA, Nat.reduceEqDiff, if_true, if_false]
      refine EvC.condT (by simp only [sA, Nat.reduceEqDiff, if_true, if_false]) ?_
      (repeat refine EvC.seq ?_); refine EvC.reg ?_; simp (config := { maxSteps := 2000000 }) (disch := first | omega | rfl) only [sA]
      refine EvC.ret ?_
      try simp (config := { maxSteps := 2000000 }) (disch := first | omega | rfl) only [thenC_ret]
      exact leave_one rfl (by simp only [Tr.get_put, Nat.reduceEqDiff, if_true, if_false]; rfl) ⟨by rw [hne, if_pos ⟨k4, by rw [hn, hi]; rfl⟩], (hxx3.trans hx4).trans hx5⟩
    | false =>
    cases hz : (t.bits == 9223372036854775808) with
    | true =>
      try simp (config := { maxSteps := 2000000 }) (disch := first | omega | rfl) only [sA, Nat.reduceEqDiff, if_true, if_false, g1, n3, hz, dFieldAddr_at fld26_3 one23, dLoad_one agg23, Bool.false_eq_true]
      refine EvC.condT (by simp only [sA, Nat.reduceEqDiff, if_true, if_false]) ?_
      (repeat refine EvC.seq ?_); refine EvC.reg ?_; simp (config := { maxSteps := 2000000 }) (disch := first | omega | rfl) only [sA]
      refine EvC.ret ?_
      try simp (config := { maxSteps := 2000000 }) (disch := first | omega | rfl) only [thenC_ret]
      exact leave_one rfl (by simp only [Tr.get_put, Nat.reduceEqDiff, if_true, if_false]; rfl) ⟨by rw [hne, if_pos ⟨k4, by rw [hn, hi, hz]; rfl⟩], (hxx3.trans hx4).trans hx5⟩
    | false =>
      try simp (config := { maxSteps := 2000000 }) (disch := first | omega | rfl) only [sA, Nat.reduceEqDiff, if_true, if_false, g1, n3, hz, dFieldAddr_at fld26_3 one23, dLoad_one agg23, Bool.false_eq_true]
      refine EvC.condF (by simp only [sA, Nat.reduceEqDiff, if_true, if_false]) (EvC.skip ?_)
      try simp (config := { maxSteps := 2000000 }) (disch := first | omega | rfl) only [thenC_normal]
      (repeat refine EvC.seq ?_); refine EvC.reg ?_; simp (config := { maxSteps := 2000000 }) (disch := first | omega | rfl) only [sA]
      refine EvC.ret ?_
      try simp (config := { maxSteps := 2000000 }) (disch := first | omega | rfl) only []
      exact leave_one rfl (by simp only [Tr.get_put, Nat.reduceEqDiff, if_true, if_false]; rfl) ⟨by rw [hne, if_neg (by rw [hn, hi, hz]; simp)], (hxx3.trans hx4).trans hx5⟩
  have q4 : (t.kind == 4) = false := by simp [k4]
  (repeat refine EvC.seq ?_); refine EvC.reg ?_; simp (config := { maxSteps := 2000000 }) (disch := first | omega | rfl) only [sA, Nat.reduceEqDiff, if_true, if_false, g1, m0, q4, dFieldAddr_at fld26_0 one3, dLoad_one agg3]
  refine EvC.condF (by simp only [sA, Nat.reduceEqDiff, if_true, if_false]) (EvC.skip ?_)
  try simp (config := { maxSteps := 2000000 }) (disch := first | omega | rfl) only [thenC_normal]
  (repeat refine EvC.seq ?_); refine EvC.reg ?_; simp (config := { maxSteps := 2000000 }) (disch := first | omega | rfl) only [sA]
  refine EvC.ret ?_
  try simp (config := { maxSteps := 2000000 }) (disch := first | omega | rfl) only []
  exact leave_one rfl (by simp only [Tr.get_put, Nat.reduceEqDiff, if_true, if_false]; rfl) ⟨by rw [hne, if_neg (fun h => k4 h.1)], hxx3⟩
end Go.Proofs.YtlllbkjiadcloaaDoor.hb
end

-- W6
section
/- All nodes of a term; Check. -/
namespace Go.Proofs.YtlllbkjiadcloaaDoor.hb
open Go Go.RowKit Go.Hb

theorem call50 : callable Tryd.prog 50 = true := by kernel_rfl
theorem call51 : callable Tryd.prog 51 = true := by kernel_rfl
theorem call84 : callable Tryd.prog 84 = true := by kernel_rfl
theorem call85 : callable Tryd.prog 85 = true := by kernel_rfl
theorem call15 : callable Tryd.prog 15 = true := by kernel_rfl
theorem call16 : callable Tryd.prog 16 = true := by kernel_rfl

mutual
/-- what is wrong with the first node that is -/
def allE (E : Tm → Int) : Tm → Int
  | .mk k s u b v l => if E (.mk k s u b v l) = 0 then allL E l else E (.mk k s u b v l)
def allL (E : Tm → Int) : List Tm → Int
  | [] => 0
  | t :: l => if allE E t = 0 then allL E l else allE E t
end
theorem allE_eq (E : Tm → Int) (t : Tm) : allE E t = if E t = 0 then allL E t.args else E t := by
  obtain ⟨k, s, u, b, v, l⟩ := t
  rw [allE]; rfl
theorem allL_drop {E : Tm → Int} {l : List Tm} {i : Nat} {t : Tm} (h : l[i]? = some t) : allL E (l.drop i) = if allE E t = 0 then allL E (l.drop (i + 1)) else allE E t := by
  have hlt := (List.getElem?_eq_some_iff.1 h).1
  have he : l[i] = t := (List.getElem?_eq_some_iff.1 h).2
  rw [List.drop_eq_getElem_cons hlt, allL, he]
def checkE (E : Tm → Int) (t : Tm) : Int := if 4000 < cnt t 0 then 24 else allE E t

/-- a call that tells a number of a term, and leaves all as it is -/
def TellsT (ok : Ok) (f : FuncId) (E : Tm → Int) : Prop := ∀ (t : Tm) (cs : List Value) (H : Heap), RepT H t cs → H.wf → EvF Tryd.prog ok f [.agg ⟨cs⟩] H fun v H' => v = .int .i64 (E t) ∧ HX H H'

theorem bne_of {n : Int} (h : n ≠ 0) : (n != 0) = true := by simp [h]
theorem bne_no {n : Int} (h : n = 0) : (n != 0) = false := by simp [h]

variable {ok : Ok}
set_option maxRecDepth 10000 in
set_option maxHeartbeats 2000000 in
theorem nodes_all_ev {E : Tm → Int} (hE : TellsT ok 84 E) (hk : ∀ args H, ok.K 50 args H = none) (hm : ok.testBit 50 = true) : TellsT ok 50 (allE E) := by
  have main : ∀ (m : Nat) {t : Tm} {cs : List Value} {H : Heap}, SizeOf.sizeOf t < m → RepT H t cs → H.wf → EvF Tryd.prog ok 50 [.agg ⟨cs⟩] H fun v H' => v = .int .i64 (allE E t) ∧ HX H H' := by
    intro m
    induction m with
    | zero => intro t cs H h; omega
    | succ m ih =>
    intro t cs H hsz r hw
    have rr := r
    obtain ⟨a, c, cells, rfl, b1, b2, b3, b4, b5, rl⟩ := r.inv
    have hx := (HX.refl hw).new (some (Blk.row [Value.int IntKind.i64 t.kind, Value.string t.name, Value.string t.num, Value.int IntKind.u64 t.bits, Value.int IntKind.i64 t.var, Value.slice a t.args.length c] 26))
    refine EvF.enter (hk _ _) Tryd.func50 hm rfl ?_
    (repeat refine EvC.seq ?_); refine EvC.reg ?_; simp (config := { maxSteps := 2000000 }) (disch := first | omega | rfl) only [sA, initTm, dBox, Value.cells, one, if_true]
    (repeat refine EvC.seq ?_); refine EvC.reg ?_; simp (config := { maxSteps := 2000000 }) (disch := first | omega | rfl) only [sA, Nat.reduceEqDiff, Nat.reduceAdd, reduceCtorEq, if_true, if_false, cutC, dLoad_agg agg26, cells26, dop_call call84]
    refine (hE t _ _ (rr.mono hx hw) hx.wf).mono ?_
    rintro v H2 ⟨rfl, hx2⟩
    have hxx := hx.trans hx2
    have hb2 : H2.get H.next = some (Blk.row [Value.int IntKind.i64 t.kind, Value.string t.name, Value.string t.num, Value.int IntKind.u64 t.bits, Value.int IntKind.i64 t.var, Value.slice a t.args.length c] 26) := by rw [hx2.keep _ (Nat.lt_succ_self _), Heap.get_new, if_pos rfl]
    have l5 : H2.load ⟨H.next, 5, none⟩ 1 = some [.slice a t.args.length c] := by simp only [Heap.load, Heap.cells, hb2]; rfl
    try simp (config := { maxSteps := 2000000 }) (disch := first | omega | rfl) only []
    by_cases he : E t = 0
    · (repeat refine EvC.seq ?_); refine EvC.reg ?_; simp (config := { maxSteps := 2000000 }) (disch := first | omega | rfl) only [sA, Nat.reduceEqDiff, reduceCtorEq, if_true, if_false, bne_no he]
      refine EvC.condF (by simp only [sA, Nat.reduceEqDiff, reduceCtorEq, if_true, if_false]) (EvC.skip ?_)
      try simp (config := { maxSteps := 2000000 }) (disch := first | omega | rfl) only [thenC_normal]
      (repeat refine EvC.seq ?_); refine EvC.reg ?_; simp (config := { maxSteps := 2000000 }) (disch := first | omega | rfl) only [sA, Nat.reduceEqDiff, reduceCtorEq, if_true, if_false, dFieldAddr_at fld26_5 one24, dLoad_one agg24, l5, dLn_slice Tryd.underlying24]
      (repeat refine EvC.seq ?_); refine EvC.block (EvC.loop (fun k st => ∃ tm H' i, st = ⟨tm, [], H'⟩ ∧ k = t.args.length - i ∧ i ≤ t.args.length ∧ allL E (t.args.drop i) = allE E t ∧
        tm.get 13 = some (.slice a t.args.length c) ∧ tm.get 14 = some (.int .i64 t.args.length) ∧ tm.get 15 = some (.int .i64 (i : Nat)) ∧ HX H H') ?_ t.args.length _ ?_)
      · rintro k st ⟨tm, H', i, rfl, hk', hi, hc, g13, g14, g15, hx'⟩
        (repeat refine EvC.seq ?_); refine EvC.reg ?_; simp (config := { maxSteps := 2000000 }) (disch := first | omega | rfl) only [sA, g14, g15]
        by_cases hlt : i < t.args.length
        · (repeat refine EvC.seq ?_); refine EvC.condT (by simp only [sA, if_true]; exact congrArg _ (decide_eq_true (by omega))) (EvC.skip ?_)
          obtain ⟨b, o, rfl, hload, hrep⟩ := rl.at (i := i) (List.getElem?_eq_getElem hlt)
          obtain ⟨a', c', cells', hcell, -⟩ := hrep.inv
          have hld := hx'.load hw hload
          rw [hcell] at hld hrep
          try simp (config := { maxSteps := 2000000 }) (disch := first | omega | rfl) only [thenC_normal]
          (repeat refine EvC.seq ?_); refine EvC.block ?_
          (repeat refine EvC.seq ?_); refine EvC.reg ?_; simp (config := { maxSteps := 2000000 }) (disch := first | omega | rfl) only [sA, dAlloc, Nat.reduceEqDiff, Nat.reduceAdd, one, if_true, if_false, g13, g15, dIndexAddr_slice Tryd.underlying24 info26 hlt, dLoad_agg agg26, cells26, hld, zero26, dStore_agg info26]
          (repeat refine EvC.seq ?_); refine EvC.reg ?_; simp (config := { maxSteps := 2000000 }) (disch := first | omega | rfl) only [sA, Nat.reduceEqDiff, Nat.reduceAdd, if_true, if_false, cutC, dLoad_agg agg26, cells26, dop_call call50]
          have hx3 := (hx'.new (some (Blk.row [Value.int IntKind.i64 0, Value.string ByteArray.empty, Value.string ByteArray.empty, Value.int IntKind.u64 0, Value.int IntKind.i64 0, Value.slice none 0 0] 26))).put (i := H'.next) hx'.next (Nat.lt_succ_self _)
            (some (.row [Value.int IntKind.i64 t.args[i].kind, Value.string t.args[i].name, Value.string t.args[i].num, Value.int IntKind.u64 t.args[i].bits, Value.int IntKind.i64 t.args[i].var, Value.slice a' t.args[i].args.length c'] 26))
          have ht : t.args[i]? = some t.args[i] := List.getElem?_eq_getElem hlt
          have hs := args_size ht
          refine (ih (t := t.args[i]) (by omega) (hrep.mono hx3 hw) hx3.wf).mono ?_
          rintro v H4 ⟨rfl, hx4⟩
          have hL : t.args.length ≤ 9223372036854775807 := Nat.le_trans rl.len rl.cap
          have hd := allL_drop (E := E) ht
          try simp (config := { maxSteps := 2000000 }) (disch := first | omega | rfl) only []
          by_cases hz : allE E t.args[i] = 0
          · (repeat refine EvC.seq ?_); refine EvC.reg ?_; simp (config := { maxSteps := 2000000 }) (disch := first | omega | rfl) only [sA, Nat.reduceEqDiff, if_true, if_false, bne_no hz]
            refine EvC.condF (by simp only [sA, Nat.reduceEqDiff, if_true, if_false]) (EvC.skip ?_)
            try simp (config := { maxSteps := 2000000 }) (disch := first | omega | rfl) only [sA]
            (repeat refine EvC.seq ?_); refine EvC.reg ?_; simp (config := { maxSteps := 2000000 }) (disch := first | omega | rfl) only [sA, Nat.reduceEqDiff, if_true, if_false, g15, wrap_i64]
            exact ⟨t.args.length - (i + 1), by omega, _, _, i + 1, rfl, rfl, by omega, by rw [← hc, hd, if_pos hz], by simp only [Tr.get_put, Nat.reduceEqDiff, if_false]; exact g13, by simp only [Tr.get_put, Nat.reduceEqDiff, if_false]; exact g14, by simp only [Tr.get_put, Nat.reduceEqDiff, if_true, if_false]; rfl, hx3.trans hx4⟩
          · (repeat refine EvC.seq ?_); refine EvC.reg ?_; simp (config := { maxSteps := 2000000 }) (disch := first | omega | rfl) only [sA, Nat.reduceEqDiff, if_true, if_false, bne_of hz]
            refine EvC.condT (by simp only [sA, Nat.reduceEqDiff, if_true, if_false]) ?_
            (repeat refine EvC.seq ?_); refine EvC.reg ?_; simp (config := { maxSteps := 2000000 }) (disch := first | omega | rfl) only [sA, Nat.reduceEqDiff, if_true, if_false]
            refine EvC.ret ?_
            try simp (config := { maxSteps := 2000000 }) (disch := first | omega | rfl) only [sA]
            exact leave_one rfl (by simp only [Tr.get_put, Nat.reduceEqDiff, if_true, if_false]; rfl) ⟨by rw [← hc, hd, if_neg hz], hx3.trans hx4⟩
        · (repeat refine EvC.seq ?_); refine EvC.condF (by simp only [sA, if_true]; exact congrArg _ (decide_eq_false (by omega))) (EvC.exit ?_)
          try simp (config := { maxSteps := 2000000 }) (disch := first | omega | rfl) only [sA, if_true]
          (repeat refine EvC.seq ?_); refine EvC.reg ?_; simp (config := { maxSteps := 2000000 }) (disch := first | omega | rfl) only [sA]
          refine EvC.ret (leave_one rfl (by simp only [Tr.get_put, Nat.reduceEqDiff, if_true, if_false]; rfl) ⟨?_, hx'⟩)
          rw [← hc, List.drop_of_length_le (by omega), allL]
      · exact ⟨_, _, 0, rfl, rfl, by omega, by rw [allE_eq, if_pos he]; rfl, by simp only [Tr.get_put, Nat.reduceEqDiff, reduceCtorEq, if_true, if_false], by simp only [Tr.get_put, Nat.reduceEqDiff, reduceCtorEq, if_true, if_false], by simp only [Tr.get_put, Nat.reduceEqDiff, reduceCtorEq, if_true, if_false]; rfl, hxx⟩
    · (repeat refine EvC.seq ?_); refine EvC.reg ?_; simp (config := { maxSteps := 2000000 }) (disch := first | omega | rfl) only [sA, Nat.reduceEqDiff, reduceCtorEq, if_true, if_false, bne_of he]
      refine EvC.condT (by simp only [sA, Nat.reduceEqDiff, reduceCtorEq, if_true, if_false]) ?_
      (repeat refine EvC.seq ?_); refine EvC.reg ?_; simp (config := { maxSteps := 2000000 }) (disch := first | omega | rfl) only [sA, Nat.reduceEqDiff, reduceCtorEq, if_true, if_false]
      refine EvC.ret ?_
      try simp (config := { maxSteps := 2000000 }) (disch := first | omega | rfl) only [thenC_ret]
      exact leave_one rfl (by simp only [Tr.get_put, Nat.reduceEqDiff, reduceCtorEq, if_true, if_false]; rfl) ⟨by rw [allE_eq, if_neg he], hxx⟩
  exact fun t cs H r hw => main _ (Nat.lt_succ_self _) r hw
end Go.Proofs.YtlllbkjiadcloaaDoor.hb
end

-- W7
section
/- All nodes of a term, the reference; both 'Check'. -/
namespace Go.Proofs.YtlllbkjiadcloaaDoor.hb
open Go Go.RowKit Go.Hb

theorem beq_of {n : Int} (h : n = 0) : (n == 0) = true := by simp [h]
theorem beq_no {n : Int} (h : n ≠ 0) : (n == 0) = false := by simp [h]

variable {ok : Ok}
set_option maxRecDepth 10000 in
set_option maxHeartbeats 2000000 in
theorem ref_all_ev {E : Tm → Int} (hE : TellsT ok 85 E) (hk : ∀ args H, ok.K 51 args H = none) (hm : ok.testBit 51 = true) : TellsT ok 51 (allE E) := by
  have main : ∀ (m : Nat) {t : Tm} {cs : List Value} {H : Heap}, SizeOf.sizeOf t < m → RepT H t cs → H.wf → EvF Tryd.prog ok 51 [.agg ⟨cs⟩] H fun v H' => v = .int .i64 (allE E t) ∧ HX H H' := by
    intro m
    induction m with
    | zero => intro t cs H h; omega
    | succ m ih =>
    intro t cs H hsz r hw
    have rr := r
    obtain ⟨a, c, cells, rfl, b1, b2, b3, b4, b5, rl⟩ := r.inv
    have hx := (HX.refl hw).new (some (Blk.row [Value.int IntKind.i64 t.kind, Value.string t.name, Value.string t.num, Value.int IntKind.u64 t.bits, Value.int IntKind.i64 t.var, Value.slice a t.args.length c] 26))
    refine EvF.enter (hk _ _) Tryd.func51 hm rfl ?_
    (repeat refine EvC.seq ?_); refine EvC.reg ?_; simp (config := { maxSteps := 2000000 }) (disch := first | omega | rfl) only [sA, initTm, dBox, Value.cells, one, if_true]
    (repeat refine EvC.seq ?_); refine EvC.reg ?_; simp (config := { maxSteps := 2000000 }) (disch := first | omega | rfl) only [sA, Nat.reduceEqDiff, Nat.reduceAdd, reduceCtorEq, if_true, if_false, cutC, dLoad_agg agg26, cells26, dop_call call85]
    refine (hE t _ _ (rr.mono hx hw) hx.wf).mono ?_
    rintro v H2 ⟨rfl, hx2⟩
    have hxx := hx.trans hx2
    have hb2 : H2.get H.next = some (Blk.row [Value.int IntKind.i64 t.kind, Value.string t.name, Value.string t.num, Value.int IntKind.u64 t.bits, Value.int IntKind.i64 t.var, Value.slice a t.args.length c] 26) := by rw [hx2.keep _ (Nat.lt_succ_self _), Heap.get_new, if_pos rfl]
    try simp (config := { maxSteps := 2000000 }) (disch := first | omega | rfl) only []
    (repeat refine EvC.seq ?_); refine EvC.reg ?_; simp (config := { maxSteps := 2000000 }) (disch := first | omega | rfl) only [sA]
    have hlt2 : H.next < H2.next := Nat.lt_of_lt_of_le (Nat.lt_succ_self _) hx2.next
    -- e: what is known so far; where it is nought, what the rest tells
    (repeat refine EvC.seq ?_); refine EvC.block (EvC.loop (fun k st => ∃ tm H' i e, st = ⟨tm, [], H'⟩ ∧ k = t.args.length - i ∧ i ≤ t.args.length ∧ (if e = 0 then allL E (t.args.drop i) else e) = allE E t ∧
        tm.get 1 = some (.pointer (some ⟨H.next, 0, none⟩)) ∧ tm.get 3 = some (.int .i64 e) ∧ tm.get 4 = some (.int .i64 (i : Nat)) ∧ H'.get H.next = some (Blk.row [Value.int IntKind.i64 t.kind, Value.string t.name, Value.string t.num, Value.int IntKind.u64 t.bits, Value.int IntKind.i64 t.var, Value.slice a t.args.length c] 26) ∧ H.next < H'.next ∧ HX H H') ?_ t.args.length _ ?_)
    · rintro k st ⟨tm, H', i, e, rfl, hk', hi, hc, g1, g3, g4, hb, hlt0, hx'⟩
      have l5 : H'.load ⟨H.next, 5, none⟩ 1 = some [.slice a t.args.length c] := by simp only [Heap.load, Heap.cells, hb]; rfl
      by_cases hlt : i < t.args.length
      · have hd1 : decide ((i : Int) < (t.args.length : Int)) = true := decide_eq_true (by omega)
        by_cases he : e = 0
        · (repeat refine EvC.seq ?_); refine EvC.reg ?_; simp (config := { maxSteps := 2000000 }) (disch := first | omega | rfl) only [sA, Nat.reduceEqDiff, if_true, if_false, g1, g3, g4, dFieldAddr_at fld26_5 one24, dLoad_one agg24, l5, dLn_slice Tryd.underlying24, hd1, beq_of he]
          (repeat refine EvC.seq ?_); refine EvC.condT (by simp only [sA, Nat.reduceEqDiff, if_true, if_false]) (EvC.skip ?_)
          obtain ⟨b, o, rfl, hload, hrep⟩ := rl.at (i := i) (List.getElem?_eq_getElem hlt)
          obtain ⟨a', c', cells', hcell, -⟩ := hrep.inv
          have hld := hx'.load hw hload
          rw [hcell] at hld hrep
          try simp (config := { maxSteps := 2000000 }) (disch := first | omega | rfl) only [thenC_normal]
          (repeat refine EvC.seq ?_); refine EvC.block ?_
          (repeat refine EvC.seq ?_); refine EvC.reg ?_; simp (config := { maxSteps := 2000000 }) (disch := first | omega | rfl) only [sA, Nat.reduceEqDiff, if_true, if_false, g1, g4, dFieldAddr_at fld26_5 one24, dLoad_one agg24, l5, dIndexAddr_slice Tryd.underlying24 info26 hlt, dLoad_agg agg26, cells26, hld, dop_call call51]
          have ht : t.args[i]? = some t.args[i] := List.getElem?_eq_getElem hlt
          have hs := args_size ht
          refine (ih (t := t.args[i]) (by omega) (hrep.mono hx' hw) hx'.wf).mono ?_
          rintro v H4 ⟨rfl, hx4⟩
          have hL : t.args.length ≤ 9223372036854775807 := Nat.le_trans rl.len rl.cap
          try simp (config := { maxSteps := 2000000 }) (disch := first | omega | rfl) only []
          (repeat refine EvC.seq ?_); refine EvC.reg ?_; simp (config := { maxSteps := 2000000 }) (disch := first | omega | rfl) only [sA, Nat.reduceEqDiff, if_true, if_false, g4, wrap_i64]
          exact ⟨t.args.length - (i + 1), by omega, _, _, i + 1, allE E t.args[i], rfl, rfl, by omega, by rw [← hc, if_pos he, allL_drop (E := E) ht], by simp only [Tr.get_put, Nat.reduceEqDiff, if_false]; exact g1, by simp only [Tr.get_put, Nat.reduceEqDiff, if_true, if_false], by simp only [Tr.get_put, Nat.reduceEqDiff, if_true, if_false]; rfl, by rw [hx4.keep _ hlt0]; exact hb, Nat.lt_of_lt_of_le hlt0 hx4.next, hx'.trans hx4⟩
        · (repeat refine EvC.seq ?_); refine EvC.reg ?_; simp (config := { maxSteps := 2000000 }) (disch := first | omega | rfl) only [sA, Nat.reduceEqDiff, if_true, if_false, g1, g3, g4, dFieldAddr_at fld26_5 one24, dLoad_one agg24, l5, dLn_slice Tryd.underlying24, hd1, beq_no he]
          (repeat refine EvC.seq ?_); refine EvC.condF (by simp only [sA, Nat.reduceEqDiff, if_true, if_false]) (EvC.exit ?_)
          try simp (config := { maxSteps := 2000000 }) (disch := first | omega | rfl) only [sA, if_true]
          (repeat refine EvC.seq ?_); refine EvC.reg ?_; simp (config := { maxSteps := 2000000 }) (disch := first | omega | rfl) only [sA, Nat.reduceEqDiff, if_true, if_false, g3]
          refine EvC.ret (leave_one rfl (by simp only [Tr.get_put, Nat.reduceEqDiff, if_true, if_false]; rfl) ⟨by rw [← hc, if_neg he], hx'⟩)
      · have hd1 : decide ((i : Int) < (t.args.length : Int)) = false := decide_eq_false (by omega)
        (repeat refine EvC.seq ?_); refine EvC.reg ?_; simp (config := { maxSteps := 2000000 }) (disch := first | omega | rfl) only [sA, Nat.reduceEqDiff, if_true, if_false, g1, g4, dFieldAddr_at fld26_5 one24, dLoad_one agg24, l5, dLn_slice Tryd.underlying24, hd1, Bool.false_eq_true]
        (repeat refine EvC.seq ?_); refine EvC.condF (by simp only [sA, Nat.reduceEqDiff, if_true, if_false]) (EvC.exit ?_)
        try simp (config := { maxSteps := 2000000 }) (disch := first | omega | rfl) only [sA, if_true]
        (repeat refine EvC.seq ?_); refine EvC.reg ?_; simp (config := { maxSteps := 2000000 }) (disch := first | omega | rfl) only [sA, Nat.reduceEqDiff, if_true, if_false, g3]
        refine EvC.ret (leave_one rfl (by simp only [Tr.get_put, Nat.reduceEqDiff, if_true, if_false]; rfl) ⟨?_, hx'⟩)
        rw [← hc, List.drop_of_length_le (by omega), allL]
        split
        · rename_i h; rw [h]
        · rfl
    · exact ⟨_, _, 0, E t, rfl, rfl, by omega, by rw [allE_eq]; rfl, by simp only [Tr.get_put, Nat.reduceEqDiff, reduceCtorEq, if_true, if_false], by simp only [Tr.get_put, Nat.reduceEqDiff, reduceCtorEq, if_true, if_false], by simp only [Tr.get_put, Nat.reduceEqDiff, reduceCtorEq, if_true, if_false]; rfl, hb2, hlt2, hxx⟩
  exact fun t cs H r hw => main _ (Nat.lt_succ_self _) r hw

set_option maxRecDepth 10000 in
theorem check_ev {E : Tm → Int} (hN : TellsT ok 13 fun t => cnt t 0) (hE : TellsT ok 50 (allE E)) (hk : ∀ args H, ok.K 15 args H = none) (hm : ok.testBit 15 = true) : TellsT ok 15 (checkE E) := by
  intro t cs H r hw
  have rr := r
  obtain ⟨a, c, cells, rfl, b1, b2, b3, b4, b5, rl⟩ := r.inv
  have hx := (HX.refl hw).new (some (Blk.row [Value.int IntKind.i64 t.kind, Value.string t.name, Value.string t.num, Value.int IntKind.u64 t.bits, Value.int IntKind.i64 t.var, Value.slice a t.args.length c] 26))
  refine EvF.enter (hk _ _) Tryd.func15 hm rfl ?_
  (repeat refine EvC.seq ?_); refine EvC.reg ?_; simp (config := { maxSteps := 2000000 }) (disch := first | omega | rfl) only [sA, initTm, dBox, Value.cells, one, if_true]
  (repeat refine EvC.seq ?_); refine EvC.reg ?_; simp (config := { maxSteps := 2000000 }) (disch := first | omega | rfl) only [sA, Nat.reduceEqDiff, Nat.reduceAdd, reduceCtorEq, if_true, if_false, cutC, dLoad_agg agg26, cells26, dop_call call13]
  refine (hN t _ _ (rr.mono hx hw) hx.wf).mono ?_
  rintro v H2 ⟨rfl, hx2⟩
  have hxx := hx.trans hx2
  have hb2 : H2.get H.next = some (Blk.row [Value.int IntKind.i64 t.kind, Value.string t.name, Value.string t.num, Value.int IntKind.u64 t.bits, Value.int IntKind.i64 t.var, Value.slice a t.args.length c] 26) := by rw [hx2.keep _ (Nat.lt_succ_self _), Heap.get_new, if_pos rfl]
  have l6 : H2.load ⟨H.next, 0, none⟩ 6 = some [Value.int IntKind.i64 t.kind, Value.string t.name, Value.string t.num, Value.int IntKind.u64 t.bits, Value.int IntKind.i64 t.var, Value.slice a t.args.length c] := by simp only [Heap.load, Heap.cells, hb2]; rfl
  by_cases hov : 4000 < cnt t 0
  · (repeat refine EvC.seq ?_); refine EvC.condT (by simp only [sA, Nat.reduceEqDiff, reduceCtorEq, if_true, if_false]; exact congrArg _ (decide_eq_true (by omega))) ?_
    (repeat refine EvC.seq ?_); refine EvC.reg ?_; simp (config := { maxSteps := 2000000 }) (disch := first | omega | rfl) only [sA]
    refine EvC.ret ?_
    try simp (config := { maxSteps := 2000000 }) (disch := first | omega | rfl) only [thenC_ret]
    exact leave_one rfl (by simp only [Tr.get_put, Nat.reduceEqDiff, reduceCtorEq, if_true, if_false]; rfl) ⟨by rw [checkE, if_pos hov], hxx⟩
  · (repeat refine EvC.seq ?_); refine EvC.condF (by simp only [sA, Nat.reduceEqDiff, reduceCtorEq, if_true, if_false]; exact congrArg _ (decide_eq_false (by omega))) (EvC.skip ?_)
    try simp (config := { maxSteps := 2000000 }) (disch := first | omega | rfl) only [sA]
    (repeat refine EvC.seq ?_); refine EvC.reg ?_; simp (config := { maxSteps := 2000000 }) (disch := first | omega | rfl) only [sA, Nat.reduceEqDiff, reduceCtorEq, if_true, if_false, dLoad_agg agg26, cells26, l6, dop_call call50]
    refine (hE t _ _ (rr.mono hxx hw) hx2.wf).mono ?_
    rintro v H3 ⟨rfl, hx3⟩
    try simp (config := { maxSteps := 2000000 }) (disch := first | omega | rfl) only []
    refine EvC.ret ?_
    try simp (config := { maxSteps := 2000000 }) (disch := first | omega | rfl) only []
    exact leave_one rfl (by simp only [Tr.get_put, Nat.reduceEqDiff, reduceCtorEq, if_true, if_false]; rfl) ⟨by rw [checkE, if_neg hov], hxx.trans hx3⟩

set_option maxRecDepth 10000 in
theorem ref_check_ev {E : Tm → Int} (hN : TellsT ok 14 fun t => cnt t 0) (hE : TellsT ok 51 (allE E)) (hk : ∀ args H, ok.K 16 args H = none) (hm : ok.testBit 16 = true) : TellsT ok 16 (checkE E) := by
  intro t cs H r hw
  have rr := r
  obtain ⟨a, c, cells, rfl, b1, b2, b3, b4, b5, rl⟩ := r.inv
  have hx := (HX.refl hw).new (some (Blk.row [Value.int IntKind.i64 t.kind, Value.string t.name, Value.string t.num, Value.int IntKind.u64 t.bits, Value.int IntKind.i64 t.var, Value.slice a t.args.length c] 26))
  refine EvF.enter (hk _ _) Tryd.func16 hm rfl ?_
  (repeat refine EvC.seq ?_); refine EvC.reg ?_; simp (config := { maxSteps := 2000000 }) (disch := first | omega | rfl) only [sA, initTm, dBox, Value.cells, one, if_true]
  (repeat refine EvC.seq ?_); refine EvC.reg ?_; simp (config := { maxSteps := 2000000 }) (disch := first | omega | rfl) only [sA, Nat.reduceEqDiff, Nat.reduceAdd, reduceCtorEq, if_true, if_false, cutC, dLoad_agg agg26, cells26, dop_call call14]
  refine (hN t _ _ (rr.mono hx hw) hx.wf).mono ?_
  rintro v H2 ⟨rfl, hx2⟩
  have hxx := hx.trans hx2
  have hb2 : H2.get H.next = some (Blk.row [Value.int IntKind.i64 t.kind, Value.string t.name, Value.string t.num, Value.int IntKind.u64 t.bits, Value.int IntKind.i64 t.var, Value.slice a t.args.length c] 26) := by rw [hx2.keep _ (Nat.lt_succ_self _), Heap.get_new, if_pos rfl]
  have l6 : H2.load ⟨H.next, 0, none⟩ 6 = some [Value.int IntKind.i64 t.kind, Value.string t.name, Value.string t.num, Value.int IntKind.u64 t.bits, Value.int IntKind.i64 t.var, Value.slice a t.args.length c] := by simp only [Heap.load, Heap.cells, hb2]; rfl
  by_cases hov : 4000 < cnt t 0
  · (repeat refine EvC.seq ?_); refine EvC.condT (by simp only [sA, Nat.reduceEqDiff, reduceCtorEq, if_true, if_false]; exact congrArg _ (decide_eq_true (by omega))) ?_
    (repeat refine EvC.seq ?_); refine EvC.reg ?_; simp (config := { maxSteps := 2000000 }) (disch := first | omega | rfl) only [sA]
    refine EvC.ret ?_
    try simp (config := { maxSteps := 2000000 }) (disch := first | omega | rfl) only [thenC_ret]
    exact leave_one rfl (by simp only [Tr.get_put, Nat.reduceEqDiff, reduceCtorEq, if_true, if_false]; rfl) ⟨by rw [checkE, if_pos hov], hxx⟩
  · (repeat refine EvC.seq ?_); refine EvC.condF (by simp only [sA, Nat.reduceEqDiff, reduceCtorEq, if_true, if_false]; exact congrArg _ (decide_eq_false (by omega))) (EvC.skip ?_)
    try simp (config := { maxSteps := 2000000 }) (disch := first | omega | rfl) only [sA]
    (repeat refine EvC.seq ?_); refine EvC.reg ?_; simp (config := { maxSteps := 2000000 }) (disch := first | omega | rfl) only [sA, Nat.reduceEqDiff, reduceCtorEq, if_true, if_false, dLoad_agg agg26, cells26, l6, dop_call call51]
    refine (hE t _ _ (rr.mono hxx hw) hx2.wf).mono ?_
    rintro v H3 ⟨rfl, hx3⟩
    try simp (config := { maxSteps := 2000000 }) (disch := first | omega | rfl) only []
    refine EvC.ret ?_
    try simp (config := { maxSteps := 2000000 }) (disch := first | omega | rfl) only []
    exact leave_one rfl (by simp only [Tr.get_put, Nat.reduceEqDiff, reduceCtorEq, if_true, if_false]; rfl) ⟨by rw [checkE, if_neg hov], hxx.trans hx3⟩
end Go.Proofs.YtlllbkjiadcloaaDoor.hb
end

-- W8
section
/- Floats: the program's tests and the reference's. -/
namespace Go.Proofs.YtlllbkjiadcloaaDoor.hb
open Go Go.RowKit Go.Hb

section
variable {P : Program} {H : Heap}
theorem dBin_neqF {t : TypeId} {x y : Operand} {k : FloatKind} {a b : Nat} : dBin P .neq t x y (.float k a) (.float k b) H = some (.val (.bool (k.format.order a b != some .eq)) H) := by
  simp [dBin, dnil, flat, eqGuard, binOp, Op.floatCmp, Sem.bind]; rfl
theorem dBin_gtrF {t : TypeId} {x y : Operand} {k : FloatKind} {a b : Nat} : dBin P .gtr t x y (.float k a) (.float k b) H = some (.val (.bool (k.format.order a b == some .gt)) H) := by
  simp [dBin, dnil, flat, eqGuard, binOp, Op.floatCmp, Sem.bind]; rfl
def iAndNot (k : IntKind) (a b : Int) : Int := k.wrap (BitVec.ofInt k.bits a &&& ~~~BitVec.ofInt k.bits b).toNat
def iAnd (k : IntKind) (a b : Int) : Int := k.wrap (BitVec.ofInt k.bits a &&& BitVec.ofInt k.bits b).toNat
theorem dBin_andNot {t : TypeId} {x y : Operand} {k : IntKind} {a b : Int} : dBin P .andNot t x y (.int k a) (.int k b) H = some (.val (.int k (iAndNot k a b)) H) := by
  simp [dBin, dnil, flat, eqGuard, binOp, Op.intBits, Sem.bind, -BitVec.toNat_and, -BitVec.toNat_not, -BitVec.toNat_ofInt]; rfl
theorem dBin_and {t : TypeId} {x y : Operand} {k : IntKind} {a b : Int} : dBin P .and t x y (.int k a) (.int k b) H = some (.val (.int k (iAnd k a b)) H) := by
  simp [dBin, dnil, flat, eqGuard, binOp, Op.intBits, Sem.bind]; rfl
theorem dBin_shr {t : TypeId} {x y : Operand} {k k' : IntKind} {a b : Int} (h : 0 ≤ b) : dBin P .shr t x y (.int k a) (.int k' b) H = some (.val (.int k (a.fdiv (2 ^ (min b.toNat k.bits)))) H) := by
  have hb : ¬ b < 0 := by omega
  simp [dBin, dnil, flat, eqGuard, binOp, Op.shift, hb, Sem.bind]; rfl
end

def rhoF (n : Nat) : Operand → Value
  | .func f => .func (.func f) #[] #[]
  | _ => .float .f64 n
theorem bits_run (n : Nat) (d : Option Tmp) (k : Tmp) (ats : Array TypeId) (ty : TypeId) (pos : String) (af : Array Edge) (g : Option (Nat × Bool)) :
    pureRun Tryd.prog (execOp (rhoF n) ⟨d, .call ⟨.value (.func 143), #[.tmp k], ats⟩, ty, pos, af, g⟩) = some (.value (.int .u64 n)) := by kernel_rfl
theorem nocall143 (l : List Value) : dcall1 Tryd.prog 143 l = none := by
  unfold dcall1
  rw [Tryd.func143]
  rfl
theorem dop_bits {d : Option Tmp} {k : Tmp} {ats : Array TypeId} {ty : TypeId} {pos : String} {af : Array Edge} {g : Option (Nat × Bool)} {tm : Tr Value} {H : Heap} {n : Nat} (hv : tm.get k = some (.float .f64 n)) :
    dop Tryd.prog ⟨d, .call ⟨.value (.func 143), #[.tmp k], ats⟩, ty, pos, af, g⟩ (ev tm) H = some (.val (.int .u64 n) H) := by
  have hρ : ∀ y ∈ (⟨d, .call ⟨.value (.func 143), #[.tmp k], ats⟩, ty, pos, af, g⟩ : Oper).op.operands, ev tm y = rhoF n y := by
    intro y hy
    simp [Op.operands, Call.operands] at hy
    rcases hy with rfl | rfl
    · rfl
    · show (tm.get k).getD junk = _
      rw [hv]; rfl
  have e : dop Tryd.prog ⟨d, .call ⟨.value (.func 143), #[.tmp k], ats⟩, ty, pos, af, g⟩ (ev tm) H = dflat Tryd.prog ⟨d, .call ⟨.value (.func 143), #[.tmp k], ats⟩, ty, pos, af, g⟩ (ev tm) H := by
    simp only [dop, ev, nocall143]
  have hf : allFlat (ev tm) (⟨d, .call ⟨.value (.func 143), #[.tmp k], ats⟩, ty, pos, af, g⟩ : Oper) = true := by
    unfold allFlat
    rw [List.all_eq_true]
    intro y hy
    rw [hρ y (Array.mem_toList_iff.1 hy)]
    simp [Op.operands, Call.operands] at hy
    rcases hy with rfl | rfl <;> rfl
  rw [e]
  unfold dflat
  rw [hf, execOp_congr _ (by intro cs b h; cases h) hρ, bits_run]
  rfl

theorem call126 : callable Tryd.prog 126 = true := by kernel_rfl
def fnB (n : Int) : Bool := FloatKind.f64.format.order n.toNat n.toNat != some .eq
def absN (m : Nat) : Nat := (iAndNot .u64 m 9223372036854775808).toNat
def fiB (n : Int) : Bool := FloatKind.f64.format.order (absN n.toNat) 9218868437227405311 == some .gt

variable {ok : Ok}
set_option maxRecDepth 10000
theorem abs_ev (hk : ∀ args H, ok.K 126 args H = none) (hm : ok.testBit 126 = true) (m : Nat) (H : Heap) (hw : H.wf) : EvF Tryd.prog ok 126 [.float .f64 m] H fun v H' => v = .float .f64 (absN m) ∧ HX H H' := by
  refine EvF.enter (hk _ _) Tryd.func126 hm rfl ?_
  (repeat refine EvC.seq ?_); refine EvC.reg ?_; simp (config := { maxSteps := 2000000 }) (disch := first | omega | rfl) only [sA, initTm]
  (repeat refine EvC.seq ?_); refine EvC.reg ?_; simp (config := { maxSteps := 2000000 }) (disch := first | omega | rfl) only [sA, reduceCtorEq, if_true, if_false]
  rw [dop_bits (n := m) (by simp only [Tr.get_put, Nat.reduceEqDiff, reduceCtorEq, if_true, if_false])]
  try simp (config := { maxSteps := 2000000 }) (disch := first | omega | rfl) only [sA, Nat.reduceEqDiff, reduceCtorEq, if_true, if_false, dBin_andNot]
  rw [dop_frombits (n := iAndNot .u64 m 9223372036854775808) (by simp only [Tr.get_put, Nat.reduceEqDiff, reduceCtorEq, if_true, if_false])]
  try simp (config := { maxSteps := 2000000 }) (disch := first | omega | rfl) only [sA, Nat.reduceEqDiff, reduceCtorEq, if_true, if_false]
  refine EvC.ret ?_
  exact leave_one rfl (by simp only [Tr.get_put, Nat.reduceEqDiff, reduceCtorEq, if_true, if_false]; rfl) ⟨rfl, HX.refl hw⟩
theorem isnan_ev (hk : ∀ args H, ok.K 103 args H = none) (hm : ok.testBit 103 = true) (n : Int) (H : Heap) (hw : H.wf) : EvF Tryd.prog ok 103 [.float .f64 n.toNat] H fun v H' => v = .bool (fnB n) ∧ HX H H' := by
  refine EvF.enter (hk _ _) Tryd.func103 hm rfl ?_
  (repeat refine EvC.seq ?_); refine EvC.reg ?_; simp (config := { maxSteps := 2000000 }) (disch := first | omega | rfl) only [sA, initTm]
  (repeat refine EvC.seq ?_); refine EvC.reg ?_; simp (config := { maxSteps := 2000000 }) (disch := first | omega | rfl) only [sA, Nat.reduceEqDiff, reduceCtorEq, if_true, if_false, dBin_neqF]
  refine EvC.ret ?_
  exact leave_one rfl (by simp only [Tr.get_put, Nat.reduceEqDiff, reduceCtorEq, if_true, if_false]; rfl) ⟨rfl, HX.refl hw⟩
theorem isinf_ev (hk : ∀ f args H, (f = 104 ∨ f = 126) → ok.K f args H = none) (hm : ok.testBit 104 = true) (hm2 : ok.testBit 126 = true) (n : Int) (H : Heap) (hw : H.wf) :
    EvF Tryd.prog ok 104 [.float .f64 n.toNat, .int .i64 0] H fun v H' => v = .bool (fiB n) ∧ HX H H' := by
  refine EvF.enter (hk _ _ _ (.inl rfl)) Tryd.func104 hm rfl ?_
  (repeat refine EvC.seq ?_); refine EvC.reg ?_; simp (config := { maxSteps := 2000000 }) (disch := first | omega | rfl) only [sA, initTm]
  (repeat refine EvC.seq ?_); refine EvC.reg ?_; simp (config := { maxSteps := 2000000 }) (disch := first | omega | rfl) only [sA, Nat.reduceEqDiff, reduceCtorEq, if_true, if_false]
  (repeat refine EvC.seq ?_); refine EvC.condT (by simp only [sA, Nat.reduceEqDiff, reduceCtorEq, if_true, if_false]; rfl) ?_
  (repeat refine EvC.seq ?_); refine EvC.reg ?_; simp (config := { maxSteps := 2000000 }) (disch := first | omega | rfl) only [sA, Nat.reduceEqDiff, reduceCtorEq, if_true, if_false, dop_call call126]
  refine (abs_ev (hk 126 · · (.inr rfl)) hm2 n.toNat H hw).mono ?_
  rintro v H2 ⟨rfl, hx⟩
  try simp (config := { maxSteps := 2000000 }) (disch := first | omega | rfl) only []
  (repeat refine EvC.seq ?_); refine EvC.reg ?_; simp (config := { maxSteps := 2000000 }) (disch := first | omega | rfl) only [sA, Nat.reduceEqDiff, reduceCtorEq, if_true, if_false, dBin_gtrF]
  refine EvC.ret ?_
  exact leave_one rfl (by simp only [Tr.get_put, Nat.reduceEqDiff, reduceCtorEq, if_true, if_false]; rfl) ⟨rfl, hx⟩

def flB (n : Int) : Bool := !(iAnd .u64 (n.fdiv (2 ^ (min (Int.toNat 52) IntKind.u64.bits))) 2047 == 2047) && !(n == 9223372036854775808)
theorem floats_ev (hk : ∀ args H, ok.K 107 args H = none) (hm : ok.testBit 107 = true) : TellsU ok 107 flB := by
  intro n H hn hw
  refine EvF.enter (hk _ _) Tryd.func107 hm rfl ?_
  (repeat refine EvC.seq ?_); refine EvC.reg ?_; simp (config := { maxSteps := 2000000 }) (disch := first | omega | rfl) only [sA, initTm]
  cases h1 : (iAnd .u64 (n.fdiv (2 ^ (min (Int.toNat 52) IntKind.u64.bits))) 2047 == 2047) with
  | true =>
    (repeat refine EvC.seq ?_); refine EvC.reg ?_; simp (config := { maxSteps := 2000000 }) (disch := first | omega | rfl) only [sA, Nat.reduceEqDiff, reduceCtorEq, if_true, if_false, dBin_shr, dBin_and, bne, h1, Bool.not_true, Bool.false_eq_true]
    refine EvC.ret ?_
    exact leave_one rfl (by simp only [Tr.get_put, Nat.reduceEqDiff, reduceCtorEq, if_true, if_false]; rfl) ⟨by unfold flB; rw [h1]; rfl, HX.refl hw⟩
  | false =>
    (repeat refine EvC.seq ?_); refine EvC.reg ?_; simp (config := { maxSteps := 2000000 }) (disch := first | omega | rfl) only [sA, Nat.reduceEqDiff, reduceCtorEq, if_true, if_false, dBin_shr, dBin_and, bne, h1, Bool.not_false]
    refine EvC.ret ?_
    exact leave_one rfl (by simp only [Tr.get_put, Nat.reduceEqDiff, reduceCtorEq, if_true, if_false]; rfl) ⟨by unfold flB; rw [h1]; rfl, HX.refl hw⟩
end Go.Proofs.YtlllbkjiadcloaaDoor.hb
end

-- W9
section
/- Floats, the plain law: the program's tests and the reference's are one. -/
namespace Go.Proofs.YtlllbkjiadcloaaDoor.hb
open Go Go.RowKit Go.Hb

theorem wrap_u64_nat (q : Nat) (h : q < 18446744073709551616) : IntKind.u64.wrap (q : Int) = (q : Int) := by
  rw [IntKind.wrap_u64]; omega
theorem iAnd_low (q : Nat) (h : q < 18446744073709551616) : iAnd .u64 (q : Int) 2047 = ((q % 2048 : Nat) : Int) := by
  unfold iAnd
  have e : (BitVec.ofInt IntKind.u64.bits (q : Int) &&& BitVec.ofInt IntKind.u64.bits 2047).toNat = q % 2048 := by
    rw [BitVec.toNat_and]
    have h1 : (BitVec.ofInt IntKind.u64.bits (q : Int)).toNat = q := by
      rw [BitVec.ofInt_natCast, BitVec.toNat_ofNat]
      exact Nat.mod_eq_of_lt h
    have h2 : (BitVec.ofInt IntKind.u64.bits 2047).toNat = 2047 := rfl
    rw [h1, h2]
    exact Nat.and_two_pow_sub_one_eq_mod q 11
  rw [e, wrap_u64_nat _ (by omega)]
theorem absN_eq (m : Nat) (h : m < 18446744073709551616) : absN m = m % 9223372036854775808 := by
  unfold absN iAndNot
  have e : (BitVec.ofInt IntKind.u64.bits (m : Int) &&& ~~~BitVec.ofInt IntKind.u64.bits 9223372036854775808).toNat = m % 9223372036854775808 := by
    rw [BitVec.toNat_and]
    have h1 : (BitVec.ofInt IntKind.u64.bits (m : Int)).toNat = m := by
      rw [BitVec.ofInt_natCast, BitVec.toNat_ofNat]
      exact Nat.mod_eq_of_lt h
    have h2 : (~~~BitVec.ofInt IntKind.u64.bits 9223372036854775808).toNat = 9223372036854775807 := rfl
    rw [h1, h2]
    exact Nat.and_two_pow_sub_one_eq_mod m 63
  rw [e, wrap_u64_nat _ (by omega)]
  exact Int.toNat_natCast _

theorem read_eq (w : Nat) : Ieee.double.read w =
    if w % 9223372036854775808 < 4503599627370496 then .number (w / 9223372036854775808 % 2 == 1) (w % 9223372036854775808) (-1074)
    else if w % 9223372036854775808 < 9218868437227405312 then .number (w / 9223372036854775808 % 2 == 1) (4503599627370496 + w % 9223372036854775808 % 4503599627370496) (-1074 + ((w % 9223372036854775808 / 4503599627370496 - 1 : Nat) : Int))
    else if w % 9223372036854775808 = 9218868437227405312 then .infinity (w / 9223372036854775808 % 2 == 1)
    else .nan (w / 9223372036854775808 % 2 == 1) (w % 9223372036854775808 - 9218868437227405312) := rfl

theorem fnB_eq (m : Nat) : (FloatKind.f64.format.order m m != some .eq) = decide (9218868437227405312 < m % 9223372036854775808) := by
  show (Ieee.Datum.order (Ieee.double.read m) (Ieee.double.read m) != some .eq) = _
  rw [read_eq]
  split
  · rename_i h
    rw [decide_eq_false (by omega)]
    simp [Ieee.Datum.order]
  · split
    · rename_i h
      rw [decide_eq_false (by omega)]
      simp [Ieee.Datum.order]
    · split
      · rename_i h
        rw [decide_eq_false (by omega)]
        simp [Ieee.Datum.order]
      · rw [decide_eq_true (by omega)]
        simp [Ieee.Datum.order]

theorem shl_ge (m k : Nat) : m ≤ m <<< k := by
  rw [Nat.shiftLeft_eq]
  exact Nat.le_mul_of_pos_right m (Nat.two_pow_pos k)

theorem fiB_eq (g : Nat) (hg : g < 9223372036854775808) : (FloatKind.f64.format.order g 9218868437227405311 == some .gt) = decide (g = 9218868437227405312) := by
  show (Ieee.Datum.order (Ieee.double.read g) (Ieee.double.read 9218868437227405311) == some .gt) = _
  have hM : Ieee.double.read 9218868437227405311 = .number false 9007199254740991 971 := by rw [read_eq]; rfl
  have hmod : g % 9223372036854775808 = g := Nat.mod_eq_of_lt hg
  have hneg : (g / 9223372036854775808 % 2 == 1) = false := by
    rw [Nat.div_eq_of_lt hg]; rfl
  have key : ∀ (m : Nat) (p : Int), m ≤ 9007199254740991 → p ≤ 971 → (Ieee.Datum.order (.number false m p) (.number false 9007199254740991 971) == some .gt) = false := by
    intro m p hm hp
    simp only [Ieee.Datum.order, Ieee.signed]
    have h1 : min p 971 = p := by omega
    rw [h1]
    have h2 : (p - p).toNat = 0 := by omega
    rw [h2]
    have hle := shl_ge 9007199254740991 (971 - p).toNat
    have hng : compare ((m <<< 0 : Nat) : Int) ((9007199254740991 <<< (971 - p).toNat : Nat) : Int) ≠ .gt := by
      rw [Ne, Int.compare_eq_gt]
      have : m <<< 0 = m := rfl
      rw [this]
      omega
    simpa using hng
  rw [read_eq, hM, hmod, hneg]
  split
  · rename_i h
    rw [decide_eq_false (by omega)]
    exact key _ _ (by omega) (by omega)
  · split
    · rename_i h
      rw [decide_eq_false (by omega)]
      exact key _ _ (by omega) (by omega)
    · split
      · rename_i h
        rw [decide_eq_true h]
        rfl
      · rename_i h
        rw [decide_eq_false h]
        rfl

theorem floats_same (n : Int) (hn : u64 n) : flB n = !(fnB n || fiB n || n == 9223372036854775808) := by
  obtain ⟨m, rfl⟩ : ∃ m : Nat, n = m := ⟨n.toNat, by unfold u64 at hn; omega⟩
  have hm : m < 18446744073709551616 := by unfold u64 at hn; omega
  unfold flB fnB fiB
  have hd : (m : Int).fdiv (2 ^ (min (Int.toNat 52) IntKind.u64.bits)) = ((m / 4503599627370496 : Nat) : Int) := by
    show (m : Int).fdiv 4503599627370496 = _
    rw [Int.fdiv_eq_ediv_of_nonneg _ (by omega)]; rfl
  rw [hd, iAnd_low _ (by omega), Int.toNat_natCast, fnB_eq, absN_eq m hm, fiB_eq _ (Nat.mod_lt _ (by omega))]
  have hc : ((((m / 4503599627370496 % 2048 : Nat) : Int) == 2047)) = (decide (9218868437227405312 < m % 9223372036854775808) || decide (m % 9223372036854775808 = 9218868437227405312)) := by
    rw [Bool.eq_iff_iff]
    simp only [beq_iff_eq, Bool.or_eq_true, decide_eq_true_eq]
    omega
  rw [hc]
  cases decide (9218868437227405312 < m % 9223372036854775808) <;> cases decide (m % 9223372036854775808 = 9218868437227405312) <;> cases ((m : Int) == 9223372036854775808) <;> rfl
end Go.Proofs.YtlllbkjiadcloaaDoor.hb
end

-- X1
section
/- Texts: the rules are Sop3's. -/
namespace Go.Proofs.YtlllbkjiadcloaaDoor.hb
end Go.Proofs.YtlllbkjiadcloaaDoor.hb
end

-- X2
section
/- UTF-8, plainly: the reference's way of telling, and the library's. -/
namespace Go.Hb
open Go.Lib

def contR : Nat → List UInt8 → Nat → Option Nat
  | 0, _, c => some c
  | _ + 1, [], _ => none
  | n + 1, b :: l, c => if b.toNat < 128 ∨ 192 ≤ b.toNat then none else contR n l (c * 64 + b.toNat - 128)
def leadR (b : Nat) : Option (Nat × Nat × Nat) :=
  if 192 ≤ b ∧ b < 224 then some (1, 128, b - 192) else if 224 ≤ b ∧ b < 240 then some (2, 2048, b - 224) else if 240 ≤ b ∧ b < 248 then some (3, 65536, b - 240) else none
abbrev badR (lo c : Nat) : Prop := c < lo ∨ 1114111 < c ∨ (55296 ≤ c ∧ c < 57344)
def stepR (l : List UInt8) : Option Nat :=
  match l with
  | [] => none
  | b :: l => match leadR b.toNat with
    | none => none
    | some (n, lo, c) => match contR n l c with
      | none => none
      | some c => if badR lo c then none else some (n + 1)
def utfR : Nat → List UInt8 → Bool
  | 0, _ => true
  | _ + 1, [] => true
  | k + 1, b :: l => if b.toNat < 128 then utfR k l else match stepR (b :: l) with
    | none => false
    | some n => utfR k ((b :: l).drop n)


/-- the step, over numbers: n bytes are there -/
def stepN (n m b1 b2 b3 : Nat) : Option Nat :=
  if 192 ≤ m ∧ m < 224 then (if n < 2 ∨ b1 < 128 ∨ 192 ≤ b1 then none else if badR 128 ((m - 192) * 64 + b1 - 128) then none else some 2)
  else if 224 ≤ m ∧ m < 240 then (if n < 3 ∨ b1 < 128 ∨ 192 ≤ b1 ∨ b2 < 128 ∨ 192 ≤ b2 then none else if badR 2048 (((m - 224) * 64 + b1 - 128) * 64 + b2 - 128) then none else some 3)
  else if 240 ≤ m ∧ m < 248 then (if n < 4 ∨ b1 < 128 ∨ 192 ≤ b1 ∨ b2 < 128 ∨ 192 ≤ b2 ∨ b3 < 128 ∨ 192 ≤ b3 then none else if badR 65536 ((((m - 240) * 64 + b1 - 128) * 64 + b2 - 128) * 64 + b3 - 128) then none else some 4)
  else none
theorem cont1 (l : List UInt8) (c : Nat) : contR 1 l c = if l.length + 1 < 2 ∨ (l.getD 0 0).toNat < 128 ∨ 192 ≤ (l.getD 0 0).toNat then none else some (c * 64 + (l.getD 0 0).toNat - 128) := by
  cases l with
  | nil => simp [contR]
  | cons b l =>
    simp only [contR, List.length_cons, List.getD_cons_zero]
    repeat' split
    all_goals first | rfl | (exfalso; omega)
theorem cont2 (l : List UInt8) (c : Nat) : contR 2 l c = if l.length + 1 < 3 ∨ (l.getD 0 0).toNat < 128 ∨ 192 ≤ (l.getD 0 0).toNat ∨ (l.getD 1 0).toNat < 128 ∨ 192 ≤ (l.getD 1 0).toNat then none else some ((c * 64 + (l.getD 0 0).toNat - 128) * 64 + (l.getD 1 0).toNat - 128) := by
  match l with
  | [] => simp [contR]
  | [b] => simp [contR]
  | a :: b :: l =>
    simp only [contR, List.length_cons, List.getD_cons_zero, List.getD_cons_succ]
    repeat' split
    all_goals first | rfl | (exfalso; omega)
theorem cont3 (l : List UInt8) (c : Nat) : contR 3 l c = if l.length + 1 < 4 ∨ (l.getD 0 0).toNat < 128 ∨ 192 ≤ (l.getD 0 0).toNat ∨ (l.getD 1 0).toNat < 128 ∨ 192 ≤ (l.getD 1 0).toNat ∨ (l.getD 2 0).toNat < 128 ∨ 192 ≤ (l.getD 2 0).toNat then none
    else some (((c * 64 + (l.getD 0 0).toNat - 128) * 64 + (l.getD 1 0).toNat - 128) * 64 + (l.getD 2 0).toNat - 128) := by
  match l with
  | [] => simp [contR]
  | [b] => simp [contR]
  | [a, b] => simp [contR]
  | a :: b :: e :: l =>
    simp only [contR, List.length_cons, List.getD_cons_zero, List.getD_cons_succ]
    repeat' split
    all_goals first | rfl | (exfalso; omega)
theorem mif {C : Prop} [Decidable C] (x lo k : Nat) : (match (if C then (none : Option Nat) else some x) with | none => none | some c => if badR lo c then none else some k) = if C then none else if badR lo x then none else some k := by
  by_cases h : C <;> simp [h]
theorem stepR_N (b : UInt8) (l : List UInt8) : stepR (b :: l) = stepN (b :: l).length b.toNat ((b :: l).getD 1 0).toNat ((b :: l).getD 2 0).toNat ((b :: l).getD 3 0).toNat := by
  unfold stepR stepN leadR
  simp only [List.length_cons, List.getD_cons_succ]
  by_cases h1 : 192 ≤ b.toNat ∧ b.toNat < 224
  · simp only [if_pos h1]
    rw [cont1]; exact mif ..
  · simp only [if_neg h1]
    by_cases h2 : 224 ≤ b.toNat ∧ b.toNat < 240
    · simp only [if_pos h2]
      rw [cont2]; exact mif ..
    · simp only [if_neg h2]
      by_cases h3 : 240 ≤ b.toNat ∧ b.toNat < 248
      · simp only [if_pos h3]
        rw [cont3]; exact mif ..
      · simp only [if_neg h3]
theorem stepN_check (n m b1 b2 b3 : Nat) (h : ¬ m < 128) (hb : m < 256) (h1 : b1 < 256) (h2 : b2 < 256) (h3 : b3 < 256) :
    stepN n m b1 b2 b3 = checkN n b1 b2 b3 (firstT m % 8) (accLo (firstT m / 16)) (accHi (firstT m / 16)) := by
  have key : ∀ (f : Nat), firstT m = f → stepN n m b1 b2 b3 = checkN n b1 b2 b3 (f % 8) (accLo (f / 16)) (accHi (f / 16)) → 
      stepN n m b1 b2 b3 = checkN n b1 b2 b3 (firstT m % 8) (accLo (firstT m / 16)) (accHi (firstT m / 16)) := by
    rintro f rfl h; exact h
  by_cases c0 : m < 194
  · refine key 241 (by simp [firstT, h, c0]) ?_
    unfold stepN badR
    simp only [accLo, accHi, checkN, Nat.reduceMod, Nat.reduceDiv, Nat.reduceEqDiff, reduceIte]
    repeat' split
    all_goals first | (exfalso; omega) | rfl
  by_cases c1 : m < 224
  · refine key 2 (by simp [firstT, h, c0, c1]) ?_
    unfold stepN badR
    simp only [accLo, accHi, checkN, Nat.reduceMod, Nat.reduceDiv, Nat.reduceEqDiff, reduceIte]
    repeat' split
    all_goals first | (exfalso; omega) | rfl
  by_cases c2 : m = 224
  · subst c2
    refine key 19 (by decide) ?_
    unfold stepN badR
    simp only [accLo, accHi, checkN, Nat.reduceMod, Nat.reduceDiv, Nat.reduceEqDiff, reduceIte]
    repeat' split
    all_goals first | (exfalso; omega) | rfl
  by_cases c3 : m < 237
  · refine key 3 (by simp [firstT, h, c0, c1, c2, c3]) ?_
    unfold stepN badR
    simp only [accLo, accHi, checkN, Nat.reduceMod, Nat.reduceDiv, Nat.reduceEqDiff, reduceIte]
    repeat' split
    all_goals first | (exfalso; omega) | rfl
  by_cases c4 : m = 237
  · subst c4
    refine key 35 (by decide) ?_
    unfold stepN badR
    simp only [accLo, accHi, checkN, Nat.reduceMod, Nat.reduceDiv, Nat.reduceEqDiff, reduceIte]
    repeat' split
    all_goals first | (exfalso; omega) | rfl
  by_cases c5 : m < 240
  · refine key 3 (by simp [firstT, h, c0, c1, c2, c3, c4, c5]) ?_
    unfold stepN badR
    simp only [accLo, accHi, checkN, Nat.reduceMod, Nat.reduceDiv, Nat.reduceEqDiff, reduceIte]
    repeat' split
    all_goals first | (exfalso; omega) | rfl
  by_cases c6 : m = 240
  · subst c6
    refine key 52 (by decide) ?_
    unfold stepN badR
    simp only [accLo, accHi, checkN, Nat.reduceMod, Nat.reduceDiv, Nat.reduceEqDiff, reduceIte]
    repeat' split
    all_goals first | (exfalso; omega) | rfl
  by_cases c7 : m < 244
  · refine key 4 (by simp [firstT, h, c0, c1, c2, c3, c4, c5, c6, c7]) ?_
    unfold stepN badR
    simp only [accLo, accHi, checkN, Nat.reduceMod, Nat.reduceDiv, Nat.reduceEqDiff, reduceIte]
    repeat' split
    all_goals first | (exfalso; omega) | rfl
  by_cases c8 : m = 244
  · subst c8
    refine key 68 (by decide) ?_
    unfold stepN badR
    simp only [accLo, accHi, checkN, Nat.reduceMod, Nat.reduceDiv, Nat.reduceEqDiff, reduceIte]
    repeat' split
    all_goals first | (exfalso; omega) | rfl
  refine key 241 (by simp [firstT, h, c0, c1, c2, c3, c4, c5, c6, c7, c8]) ?_
  unfold stepN badR
  simp only [accLo, accHi, checkN, Nat.reduceMod, Nat.reduceDiv, Nat.reduceEqDiff, reduceIte]
  repeat' split
  all_goals first | (exfalso; omega) | rfl
theorem stepR_pos {l : List UInt8} {n : Nat} (h : stepR l = some n) : 1 ≤ n := by
  unfold stepR at h
  split at h
  · cases h
  · split at h
    · cases h
    · split at h
      · cases h
      · split at h
        · cases h
        · cases h; omega
theorem utfR_valid : ∀ (k : Nat) (l : List UInt8), l.length ≤ k → utfR k l = validD l
  | 0, [], _ => rfl
  | 0, _ :: _, h => by simp at h
  | k + 1, [], _ => rfl
  | k + 1, b :: l, h => by
    rw [utfR]
    split
    · rename_i hb
      rw [validD_cons b l hb]
      exact utfR_valid k l (by simpa using h)
    · rename_i hb
      rw [validD_lead (b :: l) (by simp) (by simpa using Nat.not_lt.1 hb), stepR_N, stepN_check _ _ _ _ _ hb b.toNat_lt (UInt8.toNat_lt _) (UInt8.toNat_lt _) (UInt8.toNat_lt _)]
      have he : stepR (b :: l) = _ := stepR_N b l
      rw [stepN_check _ _ _ _ _ hb b.toNat_lt (UInt8.toNat_lt _) (UInt8.toNat_lt _) (UInt8.toNat_lt _)] at he
      simp only [List.getD_cons_zero]
      cases hc : checkN (b :: l).length ((b :: l).getD 1 0).toNat ((b :: l).getD 2 0).toNat ((b :: l).getD 3 0).toNat (firstT b.toNat % 8) (accLo (firstT b.toNat / 16)) (accHi (firstT b.toNat / 16)) with
      | none => rfl
      | some n =>
        rw [hc] at he
        have hp := stepR_pos he
        refine utfR_valid k _ ?_
        rw [List.length_drop]
        simp at h ⊢
        omega
end Go.Hb
end
