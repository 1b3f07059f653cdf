import Derived.Test.YtlllbkjiadcloaaDoorM3
import Derived.Test.YtlllbkjiadcloaaDoorM5
/- Lemmas on the program's own code, towards the laws of this folder, part 6. Conditions: as each lemma says. -/
-- U1
section
/- Variables, in their order: the program's. -/
namespace Go.Hb
open Go Go.RowKit
theorem HK.step {S S' : Nat → Prop} {A B C : Heap} (h : HK S A B) (k : HK S' B C) (hs : ∀ n, n < A.next → S' n → S n) : HK S A C :=
  ⟨Nat.le_trans h.next k.next, fun i hi hn => by rw [k.keep i (Nat.lt_of_lt_of_le hi h.next) (fun q => hn (hs i hi q)), h.keep i hi hn], k.wf⟩
end Go.Hb
namespace Go.Proofs.YtlllbkjiadcloaaDoor.hb
open Go Go.RowKit Go.Hb
variable {ok : Ok}
set_option maxRecDepth 10000
attribute [local irreducible] LX LG EL STG SOP SGO SGD SAL SRD SEF SEG SLK SCK ES
-- @veq
mutual
/-- the variables' numbers, from the left, each as often as it stands -/
def occ : Tm → List Int
  | .mk k _ _ _ v l => (if k = 1 then [v] else []) ++ occL l
def occL : List Tm → List Int
  | [] => []
  | t :: l => occ t ++ occL l
end
theorem occ_eq (t : Tm) : occ t = (if t.kind = 1 then [t.var] else []) ++ occL t.args := by obtain ⟨k, s, u, b, v, l⟩ := t; rw [occ]; rfl
theorem occL_take {l : List Tm} {i : Nat} (h : i < l.length) : occL (l.take (i + 1)) = occL (l.take i) ++ occ l[i] := by
  have app : ∀ (a b : List Tm), occL (a ++ b) = occL a ++ occL b := fun a b => by
    induction a with
    | nil => rw [occL]; rfl
    | cons t a ih => rw [List.cons_append, occL, occL, ih, List.append_assoc]
  rw [← List.take_append_getElem h, app, occL, occL, List.append_nil]

theorem occL_app (a b : List Tm) : occL (a ++ b) = occL a ++ occL b := by
  induction a with
  | nil => rw [occL]; rfl
  | cons t a ih => rw [List.cons_append, occL, occL, ih, List.append_assoc]
theorem occL_pre (l : List Tm) (i : Nat) : occL (l.take i) <+: occL l := by
  have := occL_app (l.take i) (l.drop i)
  rw [List.take_append_drop] at this
  rw [this]; exact List.prefix_append _ _
/-- what a call that takes numbers one by one keeps: S: the blocks that it may turn -/
structure Each (g : FuncId) (cap : Array Value) (H0 : Heap) (tot : List Int) (J : (Nat → Prop) → List Int → Heap → Prop) : Prop where
  base : ∀ S pre H, J S pre H → HX H0 H
  low : ∀ S pre H, J S pre H → ∀ n, S n → n < H.next
  step : ∀ S pre n H, J S pre H → (pre ++ [n]) <+: tot → EvF Tryd.prog okT g ([.int .i64 n] ++ cap.toList) H fun _ H' => ∃ S', J S' (pre ++ [n]) H' ∧ HK S H H' ∧ ∀ n, S' n → S n ∨ H.next ≤ n
  stay : ∀ S pre H H', J S pre H → HX H H' → J S pre H'

-- term.walk
set_option maxHeartbeats 4000000 in
theorem walk_ev {g : FuncId} {cap : Array Value} {J : (Nat → Prop) → List Int → Heap → Prop} {H0 : Heap} {tot : List Int} (hw0 : H0.wf) (hg : callable Tryd.prog g = true) (E : Each g cap H0 tot J) :
    ∀ (m : Nat) {t : Tm} {cs : List Value} {H : Heap} {S : Nat → Prop} {pre : List Int}, SizeOf.sizeOf t < m → RepT H0 t cs → J S pre H → (pre ++ occ t) <+: tot →
    EvF Tryd.prog okT 69 [.agg ⟨cs⟩, .func (.func g) #[] cap] H fun _ H' => ∃ S', J S' (pre ++ occ t) H' ∧ HK S H H' ∧ ∀ n, S' n → S n ∨ H.next ≤ n := by
  intro m
  induction m with
  | zero => intro t cs H S pre h; omega
  | succ m ih =>
  intro t cs H S pre hsz r hj htot
  have hw := (E.base _ _ _ hj).wf
  have hlow := E.low _ _ _ hj
  obtain ⟨a, c, cells, rfl, -, -, -, -, -, rl⟩ := r.six
  have hm := rl.max
  refine EvF.enter rfl Tryd.func69 (by decide) rfl ?_
  (repeat refine EvC.seq ?_); refine EvC.reg ?_; simp (config := { maxSteps := 2000000 }) (disch := first | omega | rfl) only [sA, initTm, dBox, Value.cells, one, reduceCtorEq, if_true, if_false]
  obtain ⟨H2, e2, hx2, gp, hn2, hw2⟩ := new1 hw (.row (six t a c) 26)
  simp only [e2]
  clear e2
  have q1 := row6 gp
  have hj2 := E.stay _ _ _ _ hj hx2
  (repeat refine EvC.seq ?_); refine EvC.reg ?_; simp (config := { maxSteps := 2000000 }) (disch := first | omega | rfl) only [sA, Nat.reduceEqDiff, reduceCtorEq, if_true, if_false, fa26_0, ld3, q1]
  refine EvC.join (fun st => ∃ tm H' S', st = ⟨tm, [], H'⟩ ∧ tm.get 1 = some (.func (.func g) #[] cap) ∧ tm.get 2 = some (.pointer (some ⟨H.next, 0, none⟩)) ∧ H'.get H.next = some (.row (six t a c) 26) ∧
      J S' (pre ++ (if t.kind = 1 then [t.var] else [])) H' ∧ HK S H H' ∧ (∀ n, S' n → S n ∨ H.next < n)) ?_ ?_
  · by_cases k1 : t.kind = 1
    · repeat' (first | refine EvC.seq ?_ | refine EvC.scope ?_ | refine EvC.block ?_ | (refine EvC.skip ?_) | (refine EvC.exit ?_) | (refine EvC.ret ?_; try simp only [thenC_ret, inBlock_ret]) | (refine EvC.reg ?_; simp (config := { maxSteps := 2000000 }) (disch := first | omega | rfl) only [sA, Nat.reduceEqDiff, reduceCtorEq, if_true, if_false, ld3, fa26_4, ieq_t k1, q1, dop_callT, dCallV_func hg]) | (refine EvC.condT ?_ ?_; simp (config := { maxSteps := 2000000 }) (disch := first | omega | rfl) only [sA, Nat.reduceEqDiff, reduceCtorEq, if_true, if_false, ieq_t k1]; refine EvC_go ?_))
      refine (E.step S pre t.var H2 hj2 (by refine List.IsPrefix.trans ?_ htot; rw [occ_eq, if_pos k1, ← List.append_assoc]; exact List.prefix_append _ _)).mono ?_
      rintro v H3 ⟨S', hj3, hk3, hS3⟩
      repeat' (first | refine EvC.seq ?_ | refine EvC.scope ?_ | refine EvC.block ?_ | (refine EvC.skip ?_) | (refine EvC.exit ?_) | (refine EvC.ret ?_; try simp only [thenC_ret, inBlock_ret]))
      exact ⟨_, _, S', rfl, (by first | (simp only [Tr.get_put, Nat.reduceEqDiff, reduceCtorEq, if_true, if_false]; rfl) | simp only [Tr.get_put, Nat.reduceEqDiff, reduceCtorEq, if_true, if_false]), (by first | (simp only [Tr.get_put, Nat.reduceEqDiff, reduceCtorEq, if_true, if_false]; rfl) | simp only [Tr.get_put, Nat.reduceEqDiff, reduceCtorEq, if_true, if_false]), hk3.get hw2 gp (fun hs => by have := hlow _ hs; omega), by rw [if_pos k1]; exact hj3, (hx2.hk S).trans hk3, fun n hn => by rcases hS3 n hn with h | h; exact .inl h; exact .inr (by omega)⟩
    · repeat' (first | refine EvC.seq ?_ | refine EvC.scope ?_ | refine EvC.block ?_ | (refine EvC.skip ?_; try simp only [thenC_normal, ieq_f k1]) | (refine EvC.exit ?_) | (refine EvC.ret ?_; try simp only [thenC_ret, inBlock_ret]) | (refine EvC.condT ?_ ?_; simp (config := { maxSteps := 2000000 }) (disch := first | omega | rfl) only [sA, Nat.reduceEqDiff, reduceCtorEq, if_true, if_false, ieq_f k1]; refine EvC_go ?_) | (refine EvC.condF ?_ ?_; simp (config := { maxSteps := 2000000 }) (disch := first | omega | rfl) only [sA, Nat.reduceEqDiff, reduceCtorEq, if_true, if_false, ieq_f k1]; refine EvC_go ?_))
      exact ⟨_, _, S, rfl, (by first | (simp only [Tr.get_put, Nat.reduceEqDiff, reduceCtorEq, if_true, if_false]; rfl) | simp only [Tr.get_put, Nat.reduceEqDiff, reduceCtorEq, if_true, if_false]), (by first | (simp only [Tr.get_put, Nat.reduceEqDiff, reduceCtorEq, if_true, if_false]; rfl) | simp only [Tr.get_put, Nat.reduceEqDiff, reduceCtorEq, if_true, if_false]), gp, by rw [if_neg k1, List.append_nil]; exact hj2, hx2.hk S, fun n hn => .inl hn⟩
  rintro st ⟨tm, H3, S3, rfl, t1, t2, gp3, hj3, hk3, hS3⟩
  have q1 := row6 gp3
  repeat' (first | refine EvC.seq ?_ | refine EvC.scope ?_ | refine EvC.block ?_ | (refine EvC.skip ?_) | (refine EvC.exit ?_) | (refine EvC.ret ?_; try simp only [thenC_ret, inBlock_ret]) | (refine EvC.reg ?_; simp (config := { maxSteps := 2000000 }) (disch := first | omega | rfl) only [sA, Nat.reduceEqDiff, if_true, if_false, fa26_5, ld24, ln24, t2, q1]))
  refine EvC.loop (fun k st => ∃ tm H' i S', st = ⟨tm, [], H'⟩ ∧ k = t.args.length - i ∧ i ≤ t.args.length ∧ tm.get 1 = some (.func (.func g) #[] cap) ∧ tm.get 14 = some (.slice a t.args.length c) ∧ tm.get 15 = some (.int .i64 t.args.length) ∧ tm.get 16 = some (.int .i64 (i : Nat)) ∧
      J S' (pre ++ (if t.kind = 1 then [t.var] else []) ++ occL (t.args.take i)) H' ∧ HK S H H' ∧ (∀ n, S' n → S n ∨ H.next < n)) ?_ t.args.length _ ?_
  · rintro k st ⟨tm, H', i, S', rfl, rfl, hi, t1, t14, t15, t16, hj', hk', hS'⟩
    have hx' := E.base _ _ _ hj'
    by_cases hlt : i < t.args.length
    · obtain ⟨b, o, a1, c1, rfl, hld, hr1⟩ := rl.el hlt
      have hld1 := hx'.load hw0 hld
      repeat' (first | refine EvC.seq ?_ | refine EvC.scope ?_ | refine EvC.block ?_ | (refine EvC.skip ?_; try simp only [thenC_normal]) | (refine EvC.exit ?_) | (refine EvC.ret ?_; try simp only [thenC_ret, inBlock_ret]) | (refine EvC.reg ?_; simp (config := { maxSteps := 2000000 }) (disch := first | omega | rfl) only [sA, dAlloc, Nat.reduceEqDiff, Nat.reduceAdd, one, if_true, if_false, cutC, ia24, ld26, zr26, st26, cl69, t1, t14, t15, t16, decl hlt, hld1]) | (refine EvC.condT ?_ ?_; simp (config := { maxSteps := 2000000 }) (disch := first | omega | rfl) only [sA, if_true]; refine EvC_go ?_))
      obtain ⟨H4, e4, hx4, g4, hn4, hw4⟩ := newput hx'.wf (.row zero6 26) (.row (six t.args[i] a1 c1) 26)
      simp only [e4]
      have hs := args_size (List.getElem?_eq_getElem hlt)
      refine (ih (by omega) hr1 (E.stay _ _ _ _ hj' hx4) (by refine List.IsPrefix.trans ?_ htot; rw [List.append_assoc, ← occL_take hlt, List.append_assoc, occ_eq]; exact (List.prefix_append_right_inj _).2 ((List.prefix_append_right_inj _).2 (occL_pre _ _)))).mono ?_
      rintro v H5 ⟨S5, hj5, hk5, hS5⟩
      repeat' (first | refine EvC.seq ?_ | refine EvC.scope ?_ | refine EvC.block ?_ | (refine EvC.skip ?_) | (refine EvC.exit ?_) | (refine EvC.ret ?_; try simp only [thenC_ret, inBlock_ret]) | (refine EvC.reg ?_; simp (config := { maxSteps := 2000000 }) (disch := first | omega | rfl) only [sA, Nat.reduceEqDiff, if_true, if_false, t16, wrap_i64]))
      have hk45 : HK S H H5 := (hk'.trans (hx4.hk S)).step hk5 fun n hn hq => by rcases hS' n hq with h | h; exact h; omega
      refine ⟨t.args.length - (i + 1), by omega, _, _, i + 1, S5, rfl, rfl, by omega, (by first | (simp only [Tr.get_put, Nat.reduceEqDiff, if_false, t1]; rfl) | simp only [Tr.get_put, Nat.reduceEqDiff, if_false, t1]), (by first | (simp only [Tr.get_put, Nat.reduceEqDiff, if_false, t14]; rfl) | simp only [Tr.get_put, Nat.reduceEqDiff, if_false, t14]), (by first | (simp only [Tr.get_put, Nat.reduceEqDiff, if_false, t15]; rfl) | simp only [Tr.get_put, Nat.reduceEqDiff, if_false, t15]), (by first | (simp only [sA, Nat.reduceEqDiff, if_true, if_false]; rfl) | simp only []), ?_, hk45, ?_⟩
      · rw [occL_take hlt, ← List.append_assoc]; exact hj5
      · intro n hn
        have h1 := hk'.next
        rcases hS5 n hn with h | h
        · exact hS' n h
        · exact .inr (by omega)
    · repeat' (first | refine EvC.seq ?_ | refine EvC.scope ?_ | refine EvC.block ?_ | (refine EvC.skip ?_) | (refine EvC.exit ?_; try simp only [sA, if_true]) | (refine EvC.ret ?_; try simp only [thenC_ret, inBlock_ret]) | (refine EvC.reg ?_; simp (config := { maxSteps := 2000000 }) (disch := first | omega | rfl) only [sA, t15, t16, decn hlt]) | (refine EvC.condT ?_ ?_; simp (config := { maxSteps := 2000000 }) (disch := first | omega | rfl) only [sA, if_true]; refine EvC_go ?_) | (refine EvC.condF ?_ ?_; simp (config := { maxSteps := 2000000 }) (disch := first | omega | rfl) only [sA, if_true]; refine EvC_go ?_))
      refine leave_zero' rfl ⟨S', ?_, hk', fun n hn => by rcases hS' n hn with h | h; exact .inl h; exact .inr (by omega)⟩
      rw [List.take_of_length_le (by omega), List.append_assoc, ← occ_eq] at hj'
      exact hj'
  · exact ⟨_, _, 0, S3, rfl, rfl, by omega, (by first | (simp only [Tr.get_put, Nat.reduceEqDiff, if_false, t1]; rfl) | simp only [Tr.get_put, Nat.reduceEqDiff, if_false, t1]), (by first | (simp only [Tr.get_put, Nat.reduceEqDiff, if_true, if_false]; rfl) | simp only [Tr.get_put, Nat.reduceEqDiff, if_true, if_false]), (by first | (simp only [Tr.get_put, Nat.reduceEqDiff, if_true, if_false]; rfl) | simp only [Tr.get_put, Nat.reduceEqDiff, if_true, if_false]), (by first | (simp only [sA, Nat.reduceEqDiff, if_true, if_false]; rfl) | simp only []), by rw [List.take_zero, occL, List.append_nil]; exact hj3, hk3, hS3⟩

/-! ## Lists of numbers in rows of their own -/
def IntL (H : Heap) (T : TypeId) (S : Nat → Prop) (L : List Int) (v : Value) : Prop :=
  (L = [] ∧ v = .slice none 0 0) ∨ ∃ b c, v = .slice (some ⟨b, 0, none⟩) L.length c ∧ L.length ≤ c ∧ c ≤ maxLen ∧ H.get b = some (.row (L.map fun n => Value.int .i64 n) T) ∧ S b
theorem ints_ones (L : List Int) : (L.map fun n => Value.int .i64 n).all one = true := by
  rw [List.all_eq_true]; intro v hv; obtain ⟨n, -, rfl⟩ := List.mem_map.1 hv; rfl
theorem IntL.push {P : Program} {T t : TypeId} (hp : apOk P t T 1) {H : Heap} {S S2 : Nat → Prop} {L : List Int} {n : Int} {v : Value} {ad : Addr} {c1 : Nat} (h : IntL H T S L v) (hw : H.wf) (hl : H.load ad (1 * 1) = some [.int .i64 n]) (hm : L.length + 1 ≤ most)
    (h2 : S2 H.next) : ∃ H2 v2, dAp P #[t, t] v (.slice (some ad) 1 c1) H = some (.val v2 H2) ∧ IntL H2 T S2 (L ++ [n]) v2 ∧ HK S H H2 ∧ H2.next = H.next + 1 := by
  have hmax : L.length + 1 ≤ maxLen := Nat.le_trans hm (by simp [most, maxLen])
  rcases h with ⟨rfl, rfl⟩ | ⟨b, c, rfl, hlc, hcm, hg, hs⟩
  · exact ⟨_, _, dAp_new hp (by omega) hm hl rfl, .inr ⟨H.next, 1, rfl, Nat.le_refl _, hmax, gt_new_eq, h2⟩, ((HX.refl hw).new _).hk _, rfl⟩
  · refine ⟨_, _, dAp_row hp (by omega) hm hl rfl hg (by simp) (by rw [List.take_of_length_le (by simp)]; exact ints_ones L), .inr ⟨H.next, L.length + 1, by simp, by simp, hmax, ?_, h2⟩, ((HK.refl hw).put (.inl hs) (hw _ _ hg) none).new _, rfl⟩
    show ((H.put b none).new _).get (H.put b none).next = _
    rw [gt_new_eq, List.take_of_length_le (by simp), List.map_append]; rfl
theorem IntL.heap {H H' : Heap} {T : TypeId} {S : Nat → Prop} {L : List Int} {v : Value} (h : IntL H T S L v) (hk : ∀ n, S n → n < H.next → H'.get n = H.get n) (hw : H.wf) : IntL H' T S L v := by
  rcases h with h | ⟨b, c, h1, h2, h3, h4, h5⟩
  · exact .inl h
  · exact .inr ⟨b, c, h1, h2, h3, (hk b h5 (hw _ _ h4)).trans h4, h5⟩
theorem IntL.slice {H : Heap} {T : TypeId} {S : Nat → Prop} {L : List Int} {v : Value} (h : IntL H T S L v) : ∃ a c, v = .slice a L.length c ∧ L.length ≤ c ∧ c ≤ maxLen := by
  rcases h with ⟨rfl, rfl⟩ | ⟨b, c, rfl, h2, h3, -⟩
  · exact ⟨none, 0, rfl, Nat.le_refl _, Nat.zero_le _⟩
  · exact ⟨_, c, rfl, h2, h3⟩

/-- each number once, in the order in which they first come -/
def addU (L : List Int) (n : Int) : List Int := if n ∈ L then L else L ++ [n]
def uniq (l : List Int) : List Int := l.foldl addU []
theorem uniq_snoc (l : List Int) (n : Int) : uniq (l ++ [n]) = addU (uniq l) n := by simp [uniq]
theorem addU_len (L : List Int) (n : Int) : (addU L n).length ≤ L.length + 1 := by unfold addU; split <;> simp
theorem uniq_len (l : List Int) : (uniq l).length ≤ l.length := by
  have h : ∀ (l L : List Int), (l.foldl addU L).length ≤ L.length + l.length := by
    intro l
    induction l with
    | nil => intro L; simp
    | cons n l ih => intro L; rw [List.foldl_cons]; have := ih (addU L n); have := addU_len L n; rw [List.length_cons]; omega
  have := h l []
  simpa [uniq] using this
end Go.Proofs.YtlllbkjiadcloaaDoor.hb
end

-- U8
section
/- Variables, in their order: the reference's; lists of numbers. -/
namespace Go.Hb
open Go Go.RowKit
/-- numbers under a slice, as they are read -/
structure RdI (H : Heap) (L : List Int) (a : Option Addr) (c : Nat) : Prop where
  len : L.length ≤ c
  cap : c ≤ maxLen
  get : ∀ (i : Nat) (h : i < L.length), ∃ b o, a = some ⟨b, o, none⟩ ∧ H.load ⟨b, o + i, none⟩ 1 = some [.int .i64 L[i]]
theorem RdI.max {H : Heap} {L : List Int} {a : Option Addr} {c : Nat} (h : RdI H L a c) : L.length ≤ 9223372036854775807 := Nat.le_trans h.len h.cap
end Go.Hb
namespace Go.Proofs.YtlllbkjiadcloaaDoor.hb
open Go Go.RowKit Go.Hb
variable {ok : Ok}
set_option maxRecDepth 10000
attribute [local irreducible] LX LG EL STG SOP SGO SGD SAL SRD SEF SEG SLK SCK ES
-- @veq
theorem IntL.rd {H : Heap} {T : TypeId} {S : Nat → Prop} {L : List Int} {v : Value} (h : IntL H T S L v) : ∃ a c, v = .slice a L.length c ∧ RdI H L a c ∧ (∀ b o, a = some ⟨b, o, none⟩ → S b) := by
  rcases h with ⟨rfl, rfl⟩ | ⟨b, c, rfl, h2, h3, h4, h5⟩
  · exact ⟨none, 0, rfl, ⟨Nat.le_refl _, Nat.zero_le _, fun i h => by simp at h⟩, fun b o h => by cases h⟩
  · refine ⟨_, c, rfl, ⟨h2, h3, fun i hi => ⟨b, 0, rfl, ?_⟩⟩, fun b' o h => by cases h; exact h5⟩
    unfold Heap.load Heap.cells
    simp only [h4, Nat.zero_add]
    have : (List.drop i (L.map fun n => Value.int .i64 n)).take 1 = [.int .i64 L[i]] := by
      rw [List.drop_eq_getElem_cons (by simpa using hi)]; simp
    rw [this]; rfl

-- hornbeamref02.In
theorem in_ev {L : List Int} {n : Int} {a : Option Addr} {c : Nat} {H : Heap} (h : RdI H L a c) : EvF Tryd.prog okT 94 [.slice a L.length c, .int .i64 n] H fun v H' => v = .bool (decide (n ∈ L)) ∧ H' = H := by
  have hm := h.max
  refine EvF.enter rfl Tryd.func94 (by decide) rfl ?_
  repeat' (first | refine EvC.seq ?_ | refine EvC.scope ?_ | refine EvC.block ?_ | (refine EvC.skip ?_) | (refine EvC.exit ?_) | (refine EvC.ret ?_; try simp only [thenC_ret, inBlock_ret]) | (refine EvC.reg ?_; simp (config := { maxSteps := 2000000 }) (disch := first | omega | rfl) only [sA, initTm]))
  refine EvC.loop (fun k st => ∃ tm i, st = ⟨tm, [], H⟩ ∧ k = L.length - i ∧ i ≤ L.length ∧ n ∉ L.take i ∧ tm.get 0 = some (.slice a L.length c) ∧ tm.get 1 = some (.int .i64 n) ∧ tm.get 5 = some (.int .i64 (i : Nat))) ?_ L.length _ ?_
  · rintro k st ⟨tm, i, rfl, rfl, hi, hn, t0, t1, t5⟩
    by_cases hlt : i < L.length
    · obtain ⟨b, o, rfl, hl⟩ := h.get i hlt
      by_cases he : L[i] = n
      · repeat' (first | refine EvC.seq ?_ | refine EvC.scope ?_ | refine EvC.block ?_ | (refine EvC.skip ?_; try simp only [thenC_normal]) | (refine EvC.exit ?_) | (refine EvC.ret ?_; try simp only [thenC_ret, inBlock_ret]) | (refine EvC.reg ?_; simp (config := { maxSteps := 2000000 }) (disch := first | omega | rfl) only [sA, Nat.reduceEqDiff, reduceCtorEq, if_true, if_false, ln46, ia46, ld3, t0, t1, t5, decl hlt, hl, ieq_t he]) | (refine EvC.condT ?_ ?_; simp (config := { maxSteps := 2000000 }) (disch := first | omega | rfl) only [sA, Nat.reduceEqDiff, if_true, if_false]; refine EvC_go ?_))
        exact leave_one rfl (by first | (simp only [sA, Nat.reduceEqDiff, if_true, if_false]; rfl) | simp only []) ⟨by rw [decide_eq_true (he ▸ List.getElem_mem _)], rfl⟩
      · repeat' (first | refine EvC.seq ?_ | refine EvC.scope ?_ | refine EvC.block ?_ | (refine EvC.skip ?_; try simp only [sA]) | (refine EvC.exit ?_) | (refine EvC.ret ?_; try simp only [thenC_ret, inBlock_ret]) | (refine EvC.reg ?_; simp (config := { maxSteps := 2000000 }) (disch := first | omega | rfl) only [sA, Nat.reduceEqDiff, reduceCtorEq, if_true, if_false, ln46, ia46, ld3, t0, t1, t5, decl hlt, hl, ieq_f he, wrap_i64]) | (refine EvC.condT ?_ ?_; simp (config := { maxSteps := 2000000 }) (disch := first | omega | rfl) only [sA, Nat.reduceEqDiff, if_true, if_false]; refine EvC_go ?_) | (refine EvC.condF ?_ ?_; simp (config := { maxSteps := 2000000 }) (disch := first | omega | rfl) only [sA, Nat.reduceEqDiff, if_true, if_false]; refine EvC_go ?_))
        refine ⟨L.length - (i + 1), by omega, _, i + 1, rfl, rfl, by omega, ?_, (by first | (simp only [Tr.get_put, reduceCtorEq, if_false, t0]; rfl) | simp only [Tr.get_put, reduceCtorEq, if_false, t0]), (by first | (simp only [Tr.get_put, Nat.reduceEqDiff, if_false, t1]; rfl) | simp only [Tr.get_put, Nat.reduceEqDiff, if_false, t1]), (by first | (simp only [sA, Nat.reduceEqDiff, if_true, if_false]; rfl) | simp only [])⟩
        rw [← List.take_append_getElem hlt, List.mem_append]
        rintro (h1 | h1)
        · exact hn h1
        · simp at h1; exact he h1.symm
    · repeat' (first | refine EvC.seq ?_ | refine EvC.scope ?_ | refine EvC.block ?_ | (refine EvC.skip ?_) | (refine EvC.exit ?_; try simp only [sA, if_true]) | (refine EvC.ret ?_; try simp only [thenC_ret, inBlock_ret]) | (refine EvC.reg ?_; simp (config := { maxSteps := 2000000 }) (disch := first | omega | rfl) only [sA, Nat.reduceEqDiff, reduceCtorEq, if_true, if_false, ln46, t0, t5, decn hlt]) | (refine EvC.condT ?_ ?_; simp (config := { maxSteps := 2000000 }) (disch := first | omega | rfl) only [sA, Nat.reduceEqDiff, if_true, if_false]; refine EvC_go ?_) | (refine EvC.condF ?_ ?_; simp (config := { maxSteps := 2000000 }) (disch := first | omega | rfl) only [sA, Nat.reduceEqDiff, if_true, if_false]; refine EvC_go ?_))
      rw [List.take_of_length_le (by omega)] at hn
      exact leave_one rfl (by first | (simp only [sA, Nat.reduceEqDiff, if_true, if_false]; rfl) | simp only []) ⟨by rw [decide_eq_false hn], rfl⟩
  · exact ⟨_, 0, rfl, rfl, by omega, by simp, (by first | (simp only [Tr.get_put, reduceCtorEq, if_true, if_false]; rfl) | simp only [Tr.get_put, reduceCtorEq, if_true, if_false]), (by first | (simp only [Tr.get_put, Nat.reduceEqDiff, reduceCtorEq, if_true, if_false]; rfl) | simp only [Tr.get_put, Nat.reduceEqDiff, reduceCtorEq, if_true, if_false]), (by first | (simp only [sA, Nat.reduceEqDiff, reduceCtorEq, if_true, if_false]; rfl) | simp only [])⟩

-- hornbeamref02.Vars
set_option maxHeartbeats 4000000 in
theorem varsR_ev {H0 : Heap} (hw0 : H0.wf) {tot : List Int} (hlen : tot.length ≤ most) : ∀ (m : Nat) {t : Tm} {cs : List Value} {H : Heap} {S : Nat → Prop} {pre : List Int} {v : Value}, SizeOf.sizeOf t < m → RepT H0 t cs → HX H0 H → IntL H 3 S (uniq pre) v → (∀ n, S n → H0.next ≤ n ∧ n < H.next) → (pre ++ occ t) <+: tot →
    EvF Tryd.prog okT 64 [.agg ⟨cs⟩, v] H fun v' H' => ∃ S', IntL H' 3 S' (uniq (pre ++ occ t)) v' ∧ HK S H H' ∧ HX H0 H' ∧ (∀ n, S' n → (S n ∨ H.next ≤ n) ∧ n < H'.next) := by
  have ean : apOk Tryd.prog 46 3 1 := ap46
  intro m
  induction m with
  | zero => intro t cs H S pre v h; omega
  | succ m ih =>
  intro t cs H S pre v hsz r hx hi hS htot
  have hw := hx.wf
  have hxn := hx.next
  obtain ⟨a, c, cells, rfl, -, -, -, -, -, rl⟩ := r.six
  have hm := rl.max
  obtain ⟨av, cv, rfl, hrd, -⟩ := hi.rd
  refine EvF.enter rfl Tryd.func64 (by decide) rfl ?_
  (repeat refine EvC.seq ?_); refine EvC.reg ?_; simp (config := { maxSteps := 2000000 }) (disch := first | omega | rfl) only [sA, initTm, dBox, Value.cells, one, reduceCtorEq, if_true, if_false]
  obtain ⟨H2, e2, hx2, gp, hn2, hw2⟩ := new1 hw (.row (six t a c) 26)
  simp only [e2]
  clear e2
  have q1 := row6 gp
  have hi2 : IntL H2 3 S (uniq pre) (.slice av (uniq pre).length cv) := hi.heap (fun n _ hl => hx2.keep n hl) hw
  (repeat refine EvC.seq ?_); refine EvC.reg ?_; simp (config := { maxSteps := 2000000 }) (disch := first | omega | rfl) only [sA, Nat.reduceEqDiff, reduceCtorEq, if_true, if_false, fa26_0, ld3, q1]
  refine EvC.join (fun st => ∃ tm H' S' w, st = ⟨tm, [], H'⟩ ∧ tm.get 1 = some w ∧ tm.get 2 = some (.pointer (some ⟨H.next, 0, none⟩)) ∧ H'.get H.next = some (.row (six t a c) 26) ∧
      IntL H' 3 S' (uniq (pre ++ (if t.kind = 1 then [t.var] else []))) w ∧ HK S H H' ∧ HX H0 H' ∧ (∀ n, S' n → (S n ∨ H.next < n) ∧ n < H'.next)) ?_ ?_
  · by_cases k1 : t.kind = 1
    rotate_left
    · repeat' (first | refine EvC.seq ?_ | refine EvC.scope ?_ | refine EvC.block ?_ | (refine EvC.skip ?_; try simp only [thenC_normal, ieq_f k1]) | (refine EvC.exit ?_) | (refine EvC.ret ?_; try simp only [thenC_ret, inBlock_ret]) | (refine EvC.condT ?_ ?_; simp (config := { maxSteps := 2000000 }) (disch := first | omega | rfl) only [sA, Nat.reduceEqDiff, reduceCtorEq, if_true, if_false, ieq_f k1]; refine EvC_go ?_) | (refine EvC.condF ?_ ?_; simp (config := { maxSteps := 2000000 }) (disch := first | omega | rfl) only [sA, Nat.reduceEqDiff, reduceCtorEq, if_true, if_false, ieq_f k1]; refine EvC_go ?_))
      exact ⟨_, _, S, _, rfl, (by first | (simp only [sA, Nat.reduceEqDiff, reduceCtorEq, if_true, if_false]; rfl) | simp only []), (by first | (simp only [Tr.get_put, Nat.reduceEqDiff, reduceCtorEq, if_true, if_false]; rfl) | simp only [Tr.get_put, Nat.reduceEqDiff, reduceCtorEq, if_true, if_false]), gp, by rw [if_neg k1, List.append_nil]; exact hi2, hx2.hk S, hx.trans hx2, fun n hn => ⟨.inl hn, by have := hS n hn; omega⟩⟩
    obtain ⟨av', cv', e', hrd2, -⟩ := hi2.rd
    cases e'
    repeat' (first | refine EvC.seq ?_ | refine EvC.scope ?_ | refine EvC.block ?_ | (refine EvC.skip ?_) | (refine EvC.exit ?_) | (refine EvC.ret ?_; try simp only [thenC_ret, inBlock_ret]) | (refine EvC.reg ?_; simp (config := { maxSteps := 2000000 }) (disch := first | omega | rfl) only [sA, Nat.reduceEqDiff, reduceCtorEq, if_true, if_false, ld3, fa26_4, cl94, ieq_t k1, q1]) | (refine EvC.condT ?_ ?_; simp (config := { maxSteps := 2000000 }) (disch := first | omega | rfl) only [sA, Nat.reduceEqDiff, reduceCtorEq, if_true, if_false, ieq_t k1]; refine EvC_go ?_))
    refine (in_ev hrd2).mono ?_
    rintro v H3 ⟨rfl, rfl⟩
    by_cases hmem : t.var ∈ uniq pre
    · repeat' (first | refine EvC.seq ?_ | refine EvC.scope ?_ | refine EvC.block ?_ | (refine EvC.skip ?_; try simp only [thenC_normal]) | (refine EvC.exit ?_) | (refine EvC.ret ?_; try simp only [thenC_ret, inBlock_ret]) | (refine EvC.reg ?_; simp (config := { maxSteps := 2000000 }) (disch := first | omega | rfl) only [sA, Nat.reduceEqDiff, reduceCtorEq, if_true, if_false, decide_eq_true hmem, Bool.not_true]) | (refine EvC.condT ?_ ?_; simp (config := { maxSteps := 2000000 }) (disch := first | omega | rfl) only [sA, Nat.reduceEqDiff, reduceCtorEq, if_true, if_false]; refine EvC_go ?_) | (refine EvC.condF ?_ ?_; simp (config := { maxSteps := 2000000 }) (disch := first | omega | rfl) only [sA, Nat.reduceEqDiff, reduceCtorEq, if_true, if_false]; refine EvC_go ?_))
      exact ⟨_, _, S, _, rfl, (by first | (simp only [sA, Nat.reduceEqDiff, reduceCtorEq, if_true, if_false]; rfl) | simp only []), (by first | (simp only [Tr.get_put, Nat.reduceEqDiff, reduceCtorEq, if_true, if_false]; rfl) | simp only [Tr.get_put, Nat.reduceEqDiff, reduceCtorEq, if_true, if_false]), gp, by rw [if_pos k1, uniq_snoc, addU, if_pos hmem]; exact hi2, hx2.hk S, hx.trans hx2, fun n hn => ⟨.inl hn, by have := hS n hn; omega⟩⟩
    · repeat' (first | refine EvC.seq ?_ | refine EvC.scope ?_ | refine EvC.block ?_ | (refine EvC.skip ?_) | (refine EvC.exit ?_) | (refine EvC.ret ?_; try simp only [thenC_ret, inBlock_ret]) | (refine EvC.reg ?_; simp (config := { maxSteps := 2000000 }) (disch := first | omega | rfl) only [sA, Nat.reduceEqDiff, Value.cells, one, reduceCtorEq, if_true, if_false, layC, ld3, fa26_4, bs46_1, decide_eq_false hmem, Bool.not_false, q1]) | (refine EvC.condT ?_ ?_; simp (config := { maxSteps := 2000000 }) (disch := first | omega | rfl) only [sA, Nat.reduceEqDiff, reduceCtorEq, if_true, if_false]; refine EvC_go ?_))
      obtain ⟨H5, e5, hx5, g5, hn5, hw5⟩ := new1 hw2 (.row [.int .i64 t.var] 3)
      simp only [e5]
      have l5 : H5.load ⟨H3.next, 0, none⟩ (1 * 1) = some [.int .i64 t.var] := by unfold Heap.load Heap.cells; simp only [g5]; rfl
      have hul := uniq_len pre
      have hpl : pre.length + 1 ≤ tot.length := by
        have := htot.length_le
        rw [occ_eq, if_pos k1, List.length_append, List.length_append, List.length_singleton] at this
        omega
      obtain ⟨H7, v7, e7, hi7, hk7, hn7⟩ := IntL.push (S2 := fun n => n = H5.next) (c1 := 1) ean (hi2.heap (fun n _ hl => hx5.keep n hl) hw2) hw5 l5 (by omega) rfl
      repeat' (first | refine EvC.seq ?_ | refine EvC.scope ?_ | refine EvC.block ?_ | (refine EvC.skip ?_) | (refine EvC.exit ?_) | (refine EvC.ret ?_; try simp only [thenC_ret, inBlock_ret]) | (refine LX_go ?_; simp (config := { maxSteps := 2000000 }) (disch := first | omega | rfl) only [sA, Nat.reduceEqDiff, reduceCtorEq, if_true, if_false, e7]))
      refine ⟨_, _, fun n => n = H5.next, v7, rfl, (by first | (simp only [Tr.get_put, Nat.reduceEqDiff, reduceCtorEq, if_true, if_false]; rfl) | simp only [Tr.get_put, Nat.reduceEqDiff, reduceCtorEq, if_true, if_false]), (by first | (simp only [Tr.get_put, Nat.reduceEqDiff, reduceCtorEq, if_true, if_false]; rfl) | simp only [Tr.get_put, Nat.reduceEqDiff, reduceCtorEq, if_true, if_false]), hk7.get hw5 (hx5.get hw2 gp) (fun h => by have := hS _ h; omega), by rw [if_pos k1, uniq_snoc, addU, if_neg hmem]; exact hi7, (hx2.hk S).trans ((hx5.hk S).trans hk7), ((hx.trans hx2).trans hx5).then hk7 (fun n hn hs => by have := hS n hs; omega), fun n hn => ?_⟩
      have hn' : n = H5.next := hn
      exact ⟨.inr (by omega), by omega⟩
  rintro st ⟨tm, H3, S3, w, rfl, t1, t2, gp3, hi3, hk3, hx3, hS3⟩
  repeat' (first | refine EvC.seq ?_ | refine EvC.scope ?_ | refine EvC.block ?_ | (refine EvC.skip ?_) | (refine EvC.exit ?_) | (refine EvC.ret ?_; try simp only [thenC_ret, inBlock_ret]) | (refine EvC.reg ?_; simp (config := { maxSteps := 2000000 }) (disch := first | omega | rfl) only [sA]))
  refine EvC.loop (fun k st => ∃ tm H' i S' w, st = ⟨tm, [], H'⟩ ∧ k = t.args.length - i ∧ i ≤ t.args.length ∧ tm.get 1 = some w ∧ tm.get 2 = some (.pointer (some ⟨H.next, 0, none⟩)) ∧ tm.get 6 = some (.int .i64 (i : Nat)) ∧ H'.get H.next = some (.row (six t a c) 26) ∧
      IntL H' 3 S' (uniq (pre ++ (if t.kind = 1 then [t.var] else []) ++ occL (t.args.take i))) w ∧ HK S H H' ∧ HX H0 H' ∧ (∀ n, S' n → (S n ∨ H.next < n) ∧ n < H'.next)) ?_ t.args.length _ ?_
  · rintro k st ⟨tm, H', i, S', w, rfl, rfl, hi', t1, t2, t6, gp', hil, hk', hx', hS'⟩
    have q1 := row6 gp'
    have nn' := hk'.next
    by_cases hlt : i < t.args.length
    · obtain ⟨b, o, a1, c1, rfl, hld, hr1⟩ := rl.el hlt
      have hld1 := hx'.load hw0 hld
      repeat' (first | refine EvC.seq ?_ | refine EvC.scope ?_ | refine EvC.block ?_ | (refine EvC.skip ?_; try simp only [thenC_normal]) | (refine EvC.exit ?_) | (refine EvC.ret ?_; try simp only [thenC_ret, inBlock_ret]) | (refine EvC.reg ?_; simp (config := { maxSteps := 2000000 }) (disch := first | omega | rfl) only [sA, Nat.reduceEqDiff, if_true, if_false, fa26_5, ld24, ln24, ia24, ld26, cl64, t1, t2, t6, q1, decl hlt, hld1]) | (refine EvC.condT ?_ ?_; simp (config := { maxSteps := 2000000 }) (disch := first | omega | rfl) only [sA, Nat.reduceEqDiff, if_true, if_false]; refine EvC_go ?_))
      have hs := args_size (List.getElem?_eq_getElem hlt)
      refine (ih (by omega) hr1 hx' hil (fun n hn => by have := hS' n hn; rcases this.1 with h | h; exact ⟨(hS n h).1, this.2⟩; exact ⟨by omega, this.2⟩) (by refine List.IsPrefix.trans ?_ htot; rw [List.append_assoc, ← occL_take hlt, List.append_assoc, occ_eq]; exact (List.prefix_append_right_inj _).2 ((List.prefix_append_right_inj _).2 (occL_pre _ _)))).mono ?_
      rintro v H5 ⟨S5, hi5, hk5, hx5, hS5⟩
      repeat' (first | refine EvC.seq ?_ | refine EvC.scope ?_ | refine EvC.block ?_ | (refine EvC.skip ?_) | (refine EvC.exit ?_) | (refine EvC.ret ?_; try simp only [thenC_ret, inBlock_ret]) | (refine EvC.reg ?_; simp (config := { maxSteps := 2000000 }) (disch := first | omega | rfl) only [sA, Nat.reduceEqDiff, if_true, if_false, t6, wrap_i64]))
      refine ⟨t.args.length - (i + 1), by omega, _, _, i + 1, S5, v, rfl, rfl, by omega, (by first | (simp only [Tr.get_put, Nat.reduceEqDiff, if_true, if_false]; rfl) | simp only [Tr.get_put, Nat.reduceEqDiff, if_true, if_false]), (by first | (simp only [Tr.get_put, Nat.reduceEqDiff, if_false, t2]; rfl) | simp only [Tr.get_put, Nat.reduceEqDiff, if_false, t2]), (by first | (simp only [sA, Nat.reduceEqDiff, if_true, if_false]; rfl) | simp only []), hk5.get hx'.wf gp' (fun h => by rcases (hS' _ h).1 with h | h; have := hS _ h; omega; omega), ?_, hk'.step hk5 (fun n hn hq => by rcases (hS' n hq).1 with h | h; exact h; omega), hx5, fun n hn => ?_⟩
      · rw [occL_take hlt, ← List.append_assoc]; exact hi5
      · have := hS5 n hn
        refine ⟨?_, this.2⟩
        rcases this.1 with h | h
        · exact (hS' n h).1
        · exact .inr (by have := hx'.wf _ _ gp'; omega)
    · repeat' (first | refine EvC.seq ?_ | refine EvC.scope ?_ | refine EvC.block ?_ | (refine EvC.skip ?_) | (refine EvC.exit ?_; try simp only [sA, if_true]) | (refine EvC.ret ?_; try simp only [thenC_ret, inBlock_ret]) | (refine EvC.reg ?_; simp (config := { maxSteps := 2000000 }) (disch := first | omega | rfl) only [sA, Nat.reduceEqDiff, if_true, if_false, fa26_5, ld24, ln24, t1, t2, t6, q1, decn hlt]) | (refine EvC.condT ?_ ?_; simp (config := { maxSteps := 2000000 }) (disch := first | omega | rfl) only [sA, Nat.reduceEqDiff, if_true, if_false]; refine EvC_go ?_) | (refine EvC.condF ?_ ?_; simp (config := { maxSteps := 2000000 }) (disch := first | omega | rfl) only [sA, Nat.reduceEqDiff, if_true, if_false]; refine EvC_go ?_))
      rw [List.take_of_length_le (by omega), List.append_assoc, ← occ_eq] at hil
      exact leave_one rfl (by first | (simp only [Tr.get_put, Nat.reduceEqDiff, if_true, if_false]; rfl) | simp only [Tr.get_put, Nat.reduceEqDiff, if_true, if_false]) ⟨S', hil, hk', hx', fun n hn => by have := hS' n hn; exact ⟨by rcases this.1 with h | h; exact .inl h; exact .inr (by omega), this.2⟩⟩
  · exact ⟨_, _, 0, S3, w, rfl, rfl, by omega, (by first | (simp only [Tr.get_put, Nat.reduceEqDiff, if_false, t1]; rfl) | simp only [Tr.get_put, Nat.reduceEqDiff, if_false, t1]), (by first | (simp only [Tr.get_put, Nat.reduceEqDiff, if_false, t2]; rfl) | simp only [Tr.get_put, Nat.reduceEqDiff, if_false, t2]), (by first | (simp only [sA, if_true]; rfl) | simp only []), gp3, by rw [List.take_zero, occL, List.append_nil]; exact hi3, hk3, hx3, hS3⟩

-- hornbeamref02.AllVars
set_option maxHeartbeats 4000000 in
theorem allVars_ev {l : List Tm} {a : Option Addr} {c : Nat} {cells : Nat → List Value} {H : Heap} (rl : RepL H l a c cells) (hlen : (occL l).length ≤ most) (hw : H.wf) :
    EvF Tryd.prog okT 27 [.slice a l.length c] H fun v H' => IntL H' 3 (Rg H.next H'.next) (uniq (occL l)) v ∧ HX H H' := by
  have hm := rl.max
  refine EvF.enter rfl Tryd.func27 (by decide) rfl ?_
  repeat' (first | refine EvC.seq ?_ | refine EvC.scope ?_ | refine EvC.block ?_ | (refine EvC.skip ?_) | (refine EvC.exit ?_) | (refine EvC.ret ?_; try simp only [thenC_ret, inBlock_ret]) | (refine EvC.reg ?_; simp (config := { maxSteps := 2000000 }) (disch := first | omega | rfl) only [sA, initTm]))
  refine EvC.loop (fun k st => ∃ tm H' i S v, st = ⟨tm, [], H'⟩ ∧ k = l.length - i ∧ i ≤ l.length ∧ tm.get 0 = some (.slice a l.length c) ∧ tm.get 3 = some v ∧ tm.get 4 = some (.int .i64 (i : Nat)) ∧
      IntL H' 3 S (uniq (occL (l.take i))) v ∧ HX H H' ∧ (∀ n, S n → H.next ≤ n ∧ n < H'.next)) ?_ l.length _ ?_
  · rintro k st ⟨tm, H', i, S, v, rfl, rfl, hi, t0, t3, t4, hil, hx', hS⟩
    by_cases hlt : i < l.length
    · obtain ⟨b, o, a1, c1, rfl, hld, hr1⟩ := rl.el hlt
      have hld1 := hx'.load hw hld
      repeat' (first | refine EvC.seq ?_ | refine EvC.scope ?_ | refine EvC.block ?_ | (refine EvC.skip ?_; try simp only [thenC_normal]) | (refine EvC.exit ?_) | (refine EvC.ret ?_; try simp only [thenC_ret, inBlock_ret]) | (refine EvC.reg ?_; simp (config := { maxSteps := 2000000 }) (disch := first | omega | rfl) only [sA, Nat.reduceEqDiff, reduceCtorEq, if_true, if_false, ln24, ia24, ld26, cl64, t0, t3, t4, decl hlt, hld1]) | (refine EvC.condT ?_ ?_; simp (config := { maxSteps := 2000000 }) (disch := first | omega | rfl) only [sA, Nat.reduceEqDiff, if_true, if_false]; refine EvC_go ?_))
      refine (varsR_ev hw hlen _ (Nat.lt_succ_self _) hr1 hx' hil hS (by rw [← occL_take hlt]; exact occL_pre _ _)).mono ?_
      rintro v H5 ⟨S5, hi5, hk5, hx5, hS5⟩
      repeat' (first | refine EvC.seq ?_ | refine EvC.scope ?_ | refine EvC.block ?_ | (refine EvC.skip ?_) | (refine EvC.exit ?_) | (refine EvC.ret ?_; try simp only [thenC_ret, inBlock_ret]) | (refine EvC.reg ?_; simp (config := { maxSteps := 2000000 }) (disch := first | omega | rfl) only [sA, Nat.reduceEqDiff, if_true, if_false, t4, wrap_i64]))
      exact ⟨l.length - (i + 1), by omega, _, _, i + 1, S5, v, rfl, rfl, by omega, (by first | (simp only [Tr.get_put, reduceCtorEq, if_false, t0]; rfl) | simp only [Tr.get_put, reduceCtorEq, if_false, t0]), (by first | (simp only [Tr.get_put, Nat.reduceEqDiff, if_true, if_false]; rfl) | simp only [Tr.get_put, Nat.reduceEqDiff, if_true, if_false]), (by first | (simp only [sA, Nat.reduceEqDiff, if_true, if_false]; rfl) | simp only []), by rw [occL_take hlt]; exact hi5, hx5, fun n hn => by have := hS5 n hn; refine ⟨?_, this.2⟩; rcases this.1 with h | h; exact (hS n h).1; have := hx'.next; omega⟩
    · repeat' (first | refine EvC.seq ?_ | refine EvC.scope ?_ | refine EvC.block ?_ | (refine EvC.skip ?_) | (refine EvC.exit ?_; try simp only [sA, if_true]) | (refine EvC.ret ?_; try simp only [thenC_ret, inBlock_ret]) | (refine EvC.reg ?_; simp (config := { maxSteps := 2000000 }) (disch := first | omega | rfl) only [sA, Nat.reduceEqDiff, reduceCtorEq, if_true, if_false, ln24, t0, t3, t4, decn hlt]) | (refine EvC.condT ?_ ?_; simp (config := { maxSteps := 2000000 }) (disch := first | omega | rfl) only [sA, Nat.reduceEqDiff, if_true, if_false]; refine EvC_go ?_) | (refine EvC.condF ?_ ?_; simp (config := { maxSteps := 2000000 }) (disch := first | omega | rfl) only [sA, Nat.reduceEqDiff, if_true, if_false]; refine EvC_go ?_))
      rw [List.take_of_length_le (by omega)] at hil
      refine leave_one rfl (by first | (simp only [sA, Nat.reduceEqDiff, if_true, if_false]; rfl) | simp only []) ⟨?_, hx'⟩
      rcases hil with h | ⟨b, c', h1, h2, h3, h4, h5⟩
      · exact .inl h
      · exact .inr ⟨b, c', h1, h2, h3, h4, hS b h5⟩
  · exact ⟨_, _, 0, fun _ => False, _, rfl, rfl, by omega, (by first | (simp only [Tr.get_put, reduceCtorEq, if_true, if_false]; rfl) | simp only [Tr.get_put, reduceCtorEq, if_true, if_false]), (by first | (simp only [sA, Nat.reduceEqDiff, reduceCtorEq, if_true, if_false]; rfl) | simp only []), (by first | (simp only [sA, Nat.reduceEqDiff, reduceCtorEq, if_true, if_false]; rfl) | simp only []), by rw [List.take_zero, occL]; exact .inl ⟨rfl, rfl⟩, HX.refl hw, fun n h => h.elim⟩

-- hornbeamref02.SameInts
theorem sameInts_ev {L L' : List Int} {a a' : Option Addr} {c c' : Nat} {H : Heap} (h : RdI H L a c) (h' : RdI H L' a' c') (hw : H.wf) :
    EvF Tryd.prog okT 30 [.slice a L.length c, .slice a' L'.length c'] H fun v H' => v = .bool (decide (L = L')) ∧ HX H H' := by
  have hm := h.max
  refine EvF.enter rfl Tryd.func30 (by decide) rfl ?_
  by_cases k6 : (L.length : Int) = L'.length
  rotate_left
  · repeat' (first | refine EvC.seq ?_ | refine EvC.scope ?_ | refine EvC.block ?_ | (refine EvC.skip ?_) | (refine EvC.exit ?_) | (refine EvC.ret ?_; try simp only [thenC_ret, inBlock_ret]) | (refine EvC.reg ?_; simp (config := { maxSteps := 2000000 }) (disch := first | omega | rfl) only [sA, initTm, Nat.reduceEqDiff, reduceCtorEq, if_true, if_false, ln46, ine_t k6]) | (refine EvC.condT ?_ ?_; simp (config := { maxSteps := 2000000 }) (disch := first | omega | rfl) only [sA, Nat.reduceEqDiff, reduceCtorEq, if_true, if_false]; refine EvC_go ?_))
    exact leave_one rfl (by first | (simp only [sA, Nat.reduceEqDiff, reduceCtorEq, if_true, if_false]; rfl) | simp only []) ⟨by rw [decide_eq_false (fun h => k6 (by rw [h]))], HX.refl hw⟩
  have hlen : L.length = L'.length := by omega
  repeat' (first | refine EvC.seq ?_ | refine EvC.scope ?_ | refine EvC.block ?_ | (refine EvC.skip ?_; try simp only [thenC_normal]) | (refine EvC.exit ?_) | (refine EvC.ret ?_; try simp only [thenC_ret, inBlock_ret]) | (refine EvC.reg ?_; simp (config := { maxSteps := 2000000 }) (disch := first | omega | rfl) only [sA, initTm, Nat.reduceEqDiff, reduceCtorEq, if_true, if_false, ln46, ine_f k6]) | (refine EvC.condT ?_ ?_; simp (config := { maxSteps := 2000000 }) (disch := first | omega | rfl) only [sA, Nat.reduceEqDiff, reduceCtorEq, if_true, if_false]; refine EvC_go ?_) | (refine EvC.condF ?_ ?_; simp (config := { maxSteps := 2000000 }) (disch := first | omega | rfl) only [sA, Nat.reduceEqDiff, reduceCtorEq, if_true, if_false]; refine EvC_go ?_))
  refine EvC.loop (fun k st => ∃ tm H' i, st = ⟨tm, [], H'⟩ ∧ k = L.length - i ∧ i ≤ L.length ∧ (∀ j : Nat, j < i → L[j]? = L'[j]?) ∧
      tm.get 0 = some (.slice a L.length c) ∧ tm.get 1 = some (.slice a' L'.length c') ∧ tm.get 5 = some (.int .i64 (i : Nat)) ∧ HX H H') ?_ L.length _ ?_
  · rintro k st ⟨tm, H', i, rfl, rfl, hi, hc, t0, t1, t5, hx'⟩
    by_cases hlt : i < L.length
    · have hlt' : i < L'.length := by omega
      obtain ⟨b, o, rfl, hl⟩ := h.get i hlt
      obtain ⟨b', o', rfl, hl'⟩ := h'.get i hlt'
      have l1 := hx'.load hw hl
      have l2 := hx'.load hw hl'
      by_cases he : L[i] = L'[i]
      · repeat' (first | refine EvC.seq ?_ | refine EvC.scope ?_ | refine EvC.block ?_ | (refine EvC.skip ?_; try simp only [sA]) | (refine EvC.exit ?_) | (refine EvC.ret ?_; try simp only [thenC_ret, inBlock_ret]) | (refine EvC.reg ?_; simp (config := { maxSteps := 2000000 }) (disch := first | omega | rfl) only [sA, Nat.reduceEqDiff, reduceCtorEq, if_true, if_false, ln46, t0, t5, decl hlt, wrap_i64]) | (refine EvC.drw [([(0, 0), (1, 0), (2, 0), (3, 0), (4, 0), (5, 0), (6, 0), (7, 0), (8, 0)], none)] ?_ ?_; kernel_rfl; simp (config := { maxSteps := 2000000 }) (disch := first | omega | rfl) only [sD, sA, Nat.reduceEqDiff, Nat.reduceAdd, reduceCtorEq, if_true, if_false, ia46, ld3, t0, t1, t5, l1, l2, ine_f he, isAlloc, isRead, reduceCtorEq]) | (refine EvC.condT ?_ ?_; simp (config := { maxSteps := 2000000 }) (disch := first | omega | rfl) only [sA, Nat.reduceEqDiff, if_true, if_false]; refine EvC_go ?_) | (refine EvC.condF ?_ ?_; simp (config := { maxSteps := 2000000 }) (disch := first | omega | rfl) only [sA, Nat.reduceEqDiff, if_true, if_false]; refine EvC_go ?_))
        refine ⟨L.length - (i + 1), by omega, _, _, i + 1, rfl, rfl, by omega, fun j hj => ?_, (by first | (simp only [Tr.get_put, reduceCtorEq, if_false, t0]; rfl) | simp only [Tr.get_put, reduceCtorEq, if_false, t0]), (by first | (simp only [Tr.get_put, Nat.reduceEqDiff, if_false, t1]; rfl) | simp only [Tr.get_put, Nat.reduceEqDiff, if_false, t1]), (by first | (simp only [sA, Nat.reduceEqDiff, if_true, if_false]; rfl) | simp only []), hx'.bump _⟩
        by_cases hji : j = i
        · subst hji; rw [List.getElem?_eq_getElem hlt, List.getElem?_eq_getElem hlt', he]
        · exact hc j (by omega)
      · repeat' (first | refine EvC.seq ?_ | refine EvC.scope ?_ | refine EvC.block ?_ | (refine EvC.skip ?_; try simp only [thenC_normal]) | (refine EvC.exit ?_) | (refine EvC.ret ?_; try simp only [thenC_ret, inBlock_ret]) | (refine EvC.reg ?_; simp (config := { maxSteps := 2000000 }) (disch := first | omega | rfl) only [sA, Nat.reduceEqDiff, reduceCtorEq, if_true, if_false, ln46, t0, t5, decl hlt]) | (refine EvC.drw [([(0, 0), (1, 0), (2, 0), (3, 0), (4, 0), (5, 0), (6, 0), (7, 0), (8, 0)], none)] ?_ ?_; kernel_rfl; simp (config := { maxSteps := 2000000 }) (disch := first | omega | rfl) only [sD, sA, Nat.reduceEqDiff, Nat.reduceAdd, reduceCtorEq, if_true, if_false, ia46, ld3, t0, t1, t5, l1, l2, ine_t he, isAlloc, isRead, reduceCtorEq]) | (refine EvC.condT ?_ ?_; simp (config := { maxSteps := 2000000 }) (disch := first | omega | rfl) only [sA, Nat.reduceEqDiff, if_true, if_false]; refine EvC_go ?_))
        refine leave_one rfl (by first | (simp only [sA, Nat.reduceEqDiff, if_true, if_false]; rfl) | simp only []) ⟨?_, hx'.bump _⟩
        rw [decide_eq_false]
        rintro rfl
        exact he rfl
    · repeat' (first | refine EvC.seq ?_ | refine EvC.scope ?_ | refine EvC.block ?_ | (refine EvC.skip ?_) | (refine EvC.exit ?_; try simp only [sA, if_true]) | (refine EvC.ret ?_; try simp only [thenC_ret, inBlock_ret]) | (refine EvC.reg ?_; simp (config := { maxSteps := 2000000 }) (disch := first | omega | rfl) only [sA, Nat.reduceEqDiff, reduceCtorEq, if_true, if_false, ln46, t0, t5, decn hlt]) | (refine EvC.condT ?_ ?_; simp (config := { maxSteps := 2000000 }) (disch := first | omega | rfl) only [sA, Nat.reduceEqDiff, if_true, if_false]; refine EvC_go ?_) | (refine EvC.condF ?_ ?_; simp (config := { maxSteps := 2000000 }) (disch := first | omega | rfl) only [sA, Nat.reduceEqDiff, if_true, if_false]; refine EvC_go ?_))
      refine leave_one rfl (by first | (simp only [sA, Nat.reduceEqDiff, if_true, if_false]; rfl) | simp only []) ⟨?_, hx'⟩
      rw [decide_eq_true]
      refine List.ext_getElem? fun j => ?_
      by_cases hj : j < i
      · exact hc j hj
      · rw [List.getElem?_eq_none (by omega), List.getElem?_eq_none (by omega)]
  · exact ⟨_, _, 0, rfl, rfl, by omega, by omega, (by first | (simp only [Tr.get_put, reduceCtorEq, if_true, if_false]; rfl) | simp only [Tr.get_put, reduceCtorEq, if_true, if_false]), (by first | (simp only [Tr.get_put, Nat.reduceEqDiff, reduceCtorEq, if_true, if_false]; rfl) | simp only [Tr.get_put, Nat.reduceEqDiff, reduceCtorEq, if_true, if_false]), (by first | (simp only [sA, Nat.reduceEqDiff, reduceCtorEq, if_true, if_false]; rfl) | simp only []), HX.refl hw⟩
end Go.Proofs.YtlllbkjiadcloaaDoor.hb
end

-- Z13
section
/- Lists of terms that are checked; two terms compared. -/
namespace Go.Proofs.YtlllbkjiadcloaaDoor.hb
open Go Go.RowKit Go.Hb
variable {ok : Ok}
set_option maxRecDepth 10000
attribute [local irreducible] LX LG EL STG SOP SGO SGD SAL SRD SEF SEG SLK SCK ES
-- @veq
/-- what is wrong with the first that is -/
def chkL : List Tm → Int
  | [] => 0
  | t :: l => if checkS t = 0 then chkL l else checkS t
theorem chkL_drop {l : List Tm} {i : Nat} (h : i < l.length) : chkL (l.drop i) = if checkS l[i] = 0 then chkL (l.drop (i + 1)) else checkS l[i] := by
  rw [List.drop_eq_getElem_cons h, chkL]
theorem chkL_zero : ∀ {l : List Tm}, chkL l = 0 → ∀ t ∈ l, checkS t = 0
  | [], _, t, h => by simp at h
  | u :: l, h, t, ht => by
    rw [chkL] at h
    split at h
    · rename_i h0
      rcases List.mem_cons.1 ht with rfl | ht
      · exact h0
      · exact chkL_zero h t ht
    · rename_i h0; exact absurd h h0

-- term.checks
theorem checks_ev {l : List Tm} {a : Option Addr} {c : Nat} {cells : Nat → List Value} {H : Heap} (rl : RepL H l a c cells) (hw : H.wf) :
    EvF Tryd.prog okT 52 [.slice a l.length c] H fun v H' => v = .int .i64 (chkL l) ∧ HX H H' := by
  have hm := rl.max
  refine EvF.enter rfl Tryd.func52 (by decide) rfl ?_
  repeat' (first | refine EvC.seq ?_ | refine EvC.scope ?_ | refine EvC.block ?_ | (refine EvC.skip ?_) | (refine EvC.exit ?_) | (refine EvC.ret ?_; try simp only [thenC_ret, inBlock_ret]) | (refine EvC.reg ?_; simp (config := { maxSteps := 2000000 }) (disch := first | omega | rfl) only [sA, initTm, Nat.reduceEqDiff, reduceCtorEq, if_true, if_false, ln24]))
  refine EvC.loop (fun k st => ∃ tm H' i, st = ⟨tm, [], H'⟩ ∧ k = l.length - i ∧ i ≤ l.length ∧ chkL (l.drop i) = chkL l ∧ tm.get 6 = some (.slice a l.length c) ∧ tm.get 7 = some (.int .i64 l.length) ∧ tm.get 8 = some (.int .i64 (i : Nat)) ∧ HX H H') ?_ l.length _ ?_
  · rintro k st ⟨tm, H', i, rfl, rfl, hi, hc, g6, g7, g8, hx⟩
    by_cases hlt : i < l.length
    · obtain ⟨b, o, a1, c1, rfl, hld, hr⟩ := rl.el hlt
      have hld1 := hx.load hw hld
      repeat' (first | refine EvC.seq ?_ | refine EvC.scope ?_ | refine EvC.block ?_ | (refine EvC.skip ?_; try simp only [thenC_normal]) | (refine EvC.exit ?_) | (refine EvC.ret ?_; try simp only [thenC_ret, inBlock_ret]) | (refine EvC.reg ?_; simp (config := { maxSteps := 2000000 }) (disch := first | omega | rfl) only [sA, dAlloc, Nat.reduceEqDiff, Nat.reduceAdd, one, if_true, if_false, cutC, ia24, ld26, zr26, st26, cl15, g6, g7, g8, decl hlt, hld1]) | (refine EvC.condT ?_ ?_; simp (config := { maxSteps := 2000000 }) (disch := first | omega | rfl) only [sA, if_true]; refine EvC_go ?_))
      have hx2 := (hx.new (some (.row [.int .i64 0, .string ByteArray.empty, .string ByteArray.empty, .int .u64 0, .int .i64 0, .slice none 0 0] 26))).put (i := H'.next) hx.next (Nat.lt_succ_self _) (some (.row (six l[i] a1 c1) 26))
      refine (check_tells _ _ _ (hr.mono hx2 hw) hx2.wf).mono ?_
      rintro v H3 ⟨rfl, hx3⟩
      by_cases h0 : checkS l[i] = 0
      · repeat' (first | refine EvC.seq ?_ | refine EvC.scope ?_ | refine EvC.block ?_ | (refine EvC.skip ?_; try simp only [sA]) | (refine EvC.exit ?_) | (refine EvC.ret ?_; try simp only [thenC_ret, inBlock_ret]) | (refine EvC.reg ?_; simp (config := { maxSteps := 2000000 }) (disch := first | omega | rfl) only [sA, Nat.reduceEqDiff, if_true, if_false, g8, ine_f h0, wrap_i64]) | (refine EvC.condT ?_ ?_; simp (config := { maxSteps := 2000000 }) (disch := first | omega | rfl) only [sA, Nat.reduceEqDiff, if_true, if_false]; refine EvC_go ?_) | (refine EvC.condF ?_ ?_; simp (config := { maxSteps := 2000000 }) (disch := first | omega | rfl) only [sA, Nat.reduceEqDiff, if_true, if_false]; refine EvC_go ?_))
        exact ⟨l.length - (i + 1), by omega, _, _, i + 1, rfl, rfl, by omega, by rw [← hc, chkL_drop hlt, if_pos h0], (by first | (simp only [Tr.get_put, Nat.reduceEqDiff, if_false, g6]; rfl) | simp only [Tr.get_put, Nat.reduceEqDiff, if_false, g6]), (by first | (simp only [Tr.get_put, Nat.reduceEqDiff, if_false, g7]; rfl) | simp only [Tr.get_put, Nat.reduceEqDiff, if_false, g7]), (by first | (simp only [sA, Nat.reduceEqDiff, if_true, if_false]; rfl) | simp only []), hx2.trans hx3⟩
      · repeat' (first | refine EvC.seq ?_ | refine EvC.scope ?_ | refine EvC.block ?_ | (refine EvC.skip ?_) | (refine EvC.exit ?_) | (refine EvC.ret ?_; try simp only [thenC_ret, inBlock_ret]) | (refine EvC.reg ?_; simp (config := { maxSteps := 2000000 }) (disch := first | omega | rfl) only [sA, Nat.reduceEqDiff, if_true, if_false, ine_t h0]) | (refine EvC.condT ?_ ?_; simp (config := { maxSteps := 2000000 }) (disch := first | omega | rfl) only [sA, Nat.reduceEqDiff, if_true, if_false]; refine EvC_go ?_))
        exact leave_one rfl (by first | (simp only [sA, Nat.reduceEqDiff, if_true, if_false]; rfl) | simp only []) ⟨by rw [← hc, chkL_drop hlt, if_neg h0], hx2.trans hx3⟩
    · repeat' (first | refine EvC.seq ?_ | refine EvC.scope ?_ | refine EvC.block ?_ | (refine EvC.skip ?_) | (refine EvC.exit ?_; try simp only [sA, if_true]) | (refine EvC.ret ?_; try simp only [thenC_ret, inBlock_ret]) | (refine EvC.reg ?_; simp (config := { maxSteps := 2000000 }) (disch := first | omega | rfl) only [sA, g7, g8, decn hlt]) | (refine EvC.condT ?_ ?_; simp (config := { maxSteps := 2000000 }) (disch := first | omega | rfl) only [sA, if_true]; refine EvC_go ?_) | (refine EvC.condF ?_ ?_; simp (config := { maxSteps := 2000000 }) (disch := first | omega | rfl) only [sA, if_true]; refine EvC_go ?_))
      exact leave_one rfl (by first | (simp only [sA, Nat.reduceEqDiff, if_true, if_false]; rfl) | simp only []) ⟨by rw [← hc, List.drop_of_length_le (by omega), chkL], hx⟩
  · exact ⟨_, _, 0, rfl, rfl, by omega, rfl, (by first | (simp only [Tr.get_put, Nat.reduceEqDiff, reduceCtorEq, if_true, if_false]; rfl) | simp only [Tr.get_put, Nat.reduceEqDiff, reduceCtorEq, if_true, if_false]), (by first | (simp only [Tr.get_put, Nat.reduceEqDiff, reduceCtorEq, if_true, if_false]; rfl) | simp only [Tr.get_put, Nat.reduceEqDiff, reduceCtorEq, if_true, if_false]), (by first | (simp only [sA, Nat.reduceEqDiff, reduceCtorEq, if_true, if_false]; rfl) | simp only []), HX.refl hw⟩

-- hornbeamref02.Checks
theorem checksR_ev {l : List Tm} {a : Option Addr} {c : Nat} {cells : Nat → List Value} {H : Heap} (rl : RepL H l a c cells) (hw : H.wf) :
    EvF Tryd.prog okT 54 [.slice a l.length c] H fun v H' => v = .int .i64 (chkL l) ∧ HX H H' := by
  have hm := rl.max
  refine EvF.enter rfl Tryd.func54 (by decide) rfl ?_
  repeat' (first | refine EvC.seq ?_ | refine EvC.scope ?_ | refine EvC.block ?_ | (refine EvC.skip ?_) | (refine EvC.exit ?_) | (refine EvC.ret ?_; try simp only [thenC_ret, inBlock_ret]) | (refine EvC.reg ?_; simp (config := { maxSteps := 2000000 }) (disch := first | omega | rfl) only [sA, initTm]))
  refine EvC.loop (fun k st => ∃ tm H' i, st = ⟨tm, [], H'⟩ ∧ k = l.length - i ∧ i ≤ l.length ∧ chkL (l.drop i) = chkL l ∧ tm.get 0 = some (.slice a l.length c) ∧ tm.get 3 = some (.int .i64 (i : Nat)) ∧ HX H H') ?_ l.length _ ?_
  · rintro k st ⟨tm, H', i, rfl, rfl, hi, hc, g6, g8, hx⟩
    by_cases hlt : i < l.length
    · obtain ⟨b, o, a1, c1, rfl, hld, hr⟩ := rl.el hlt
      have hld1 := hx.load hw hld
      repeat' (first | refine EvC.seq ?_ | refine EvC.scope ?_ | refine EvC.block ?_ | (refine EvC.skip ?_; try simp only [thenC_normal]) | (refine EvC.exit ?_) | (refine EvC.ret ?_; try simp only [thenC_ret, inBlock_ret]) | (refine EvC.reg ?_; simp (config := { maxSteps := 2000000 }) (disch := first | omega | rfl) only [sA, Nat.reduceEqDiff, reduceCtorEq, if_true, if_false, ln24, ia24, ld26, cl16, g6, g8, decl hlt, hld1]) | (refine EvC.condT ?_ ?_; simp (config := { maxSteps := 2000000 }) (disch := first | omega | rfl) only [sA, Nat.reduceEqDiff, if_true, if_false]; refine EvC_go ?_))
      refine (checkR_tells _ _ _ (hr.mono hx hw) hx.wf).mono ?_
      rintro v H3 ⟨rfl, hx3⟩
      by_cases h0 : checkS l[i] = 0
      · repeat' (first | refine EvC.seq ?_ | refine EvC.scope ?_ | refine EvC.block ?_ | (refine EvC.skip ?_; try simp only [sA]) | (refine EvC.exit ?_) | (refine EvC.ret ?_; try simp only [thenC_ret, inBlock_ret]) | (refine EvC.reg ?_; simp (config := { maxSteps := 2000000 }) (disch := first | omega | rfl) only [sA, Nat.reduceEqDiff, if_true, if_false, g8, ine_f h0, wrap_i64]) | (refine EvC.condT ?_ ?_; simp (config := { maxSteps := 2000000 }) (disch := first | omega | rfl) only [sA, Nat.reduceEqDiff, if_true, if_false]; refine EvC_go ?_) | (refine EvC.condF ?_ ?_; simp (config := { maxSteps := 2000000 }) (disch := first | omega | rfl) only [sA, Nat.reduceEqDiff, if_true, if_false]; refine EvC_go ?_))
        exact ⟨l.length - (i + 1), by omega, _, _, i + 1, rfl, rfl, by omega, by rw [← hc, chkL_drop hlt, if_pos h0], (by first | (simp only [Tr.get_put, reduceCtorEq, if_false, g6]; rfl) | simp only [Tr.get_put, reduceCtorEq, if_false, g6]), (by first | (simp only [sA, Nat.reduceEqDiff, if_true, if_false]; rfl) | simp only []), hx.trans hx3⟩
      · repeat' (first | refine EvC.seq ?_ | refine EvC.scope ?_ | refine EvC.block ?_ | (refine EvC.skip ?_) | (refine EvC.exit ?_) | (refine EvC.ret ?_; try simp only [thenC_ret, inBlock_ret]) | (refine EvC.reg ?_; simp (config := { maxSteps := 2000000 }) (disch := first | omega | rfl) only [sA, Nat.reduceEqDiff, if_true, if_false, ine_t h0]) | (refine EvC.condT ?_ ?_; simp (config := { maxSteps := 2000000 }) (disch := first | omega | rfl) only [sA, Nat.reduceEqDiff, if_true, if_false]; refine EvC_go ?_))
        exact leave_one rfl (by first | (simp only [sA, Nat.reduceEqDiff, if_true, if_false]; rfl) | simp only []) ⟨by rw [← hc, chkL_drop hlt, if_neg h0], hx.trans hx3⟩
    · repeat' (first | refine EvC.seq ?_ | refine EvC.scope ?_ | refine EvC.block ?_ | (refine EvC.skip ?_) | (refine EvC.exit ?_; try simp only [sA, if_true]) | (refine EvC.ret ?_; try simp only [thenC_ret, inBlock_ret]) | (refine EvC.reg ?_; simp (config := { maxSteps := 2000000 }) (disch := first | omega | rfl) only [sA, Nat.reduceEqDiff, reduceCtorEq, if_true, if_false, ln24, g6, g8, decn hlt]) | (refine EvC.condT ?_ ?_; simp (config := { maxSteps := 2000000 }) (disch := first | omega | rfl) only [sA, Nat.reduceEqDiff, if_true, if_false]; refine EvC_go ?_) | (refine EvC.condF ?_ ?_; simp (config := { maxSteps := 2000000 }) (disch := first | omega | rfl) only [sA, Nat.reduceEqDiff, if_true, if_false]; refine EvC_go ?_))
      exact leave_one rfl (by first | (simp only [sA, Nat.reduceEqDiff, if_true, if_false]; rfl) | simp only []) ⟨by rw [← hc, List.drop_of_length_le (by omega), chkL], hx⟩
  · exact ⟨_, _, 0, rfl, rfl, by omega, rfl, (by first | (simp only [Tr.get_put, reduceCtorEq, if_true, if_false]; rfl) | simp only [Tr.get_put, reduceCtorEq, if_true, if_false]), (by first | (simp only [sA, Nat.reduceEqDiff, reduceCtorEq, if_true, if_false]; rfl) | simp only []), HX.refl hw⟩

-- hornbeamlaw02.first
theorem first_ev {l : List Tm} {a : Option Addr} {c : Nat} {cells : Nat → List Value} {H : Heap} (rl : RepL H l a c cells) (hw : H.wf) :
    EvF Tryd.prog okT 18 [.slice a l.length c] H fun v H' => v = .int .i64 (chkL l) ∧ HX H H' := by
  refine EvF.enter rfl Tryd.func18 (by decide) rfl ?_
  repeat' (first | refine EvC.seq ?_ | refine EvC.scope ?_ | refine EvC.block ?_ | (refine EvC.skip ?_) | (refine EvC.exit ?_) | (refine EvC.ret ?_; try simp only [thenC_ret, inBlock_ret]) | (refine EvC.reg ?_; simp (config := { maxSteps := 2000000 }) (disch := first | omega | rfl) only [sA, initTm, Nat.reduceEqDiff, reduceCtorEq, if_true, if_false, cl54]))
  refine (checksR_ev rl hw).mono ?_
  rintro v H3 ⟨rfl, hx3⟩
  repeat' (first | refine EvC.seq ?_ | refine EvC.scope ?_ | refine EvC.block ?_ | (refine EvC.skip ?_) | (refine EvC.exit ?_) | (refine EvC.ret ?_; try simp only [thenC_ret, inBlock_ret]))
  exact leave_one rfl (by first | (simp only [Tr.get_put, Nat.reduceEqDiff, reduceCtorEq, if_true, if_false]; rfl) | simp only [Tr.get_put, Nat.reduceEqDiff, reduceCtorEq, if_true, if_false]) ⟨rfl, hx3⟩
end Go.Proofs.YtlllbkjiadcloaaDoor.hb
end

-- U2
section
/- The variables of some terms, each once: the program's. -/
namespace Go.Proofs.YtlllbkjiadcloaaDoor.hb
open Go Go.RowKit Go.Hb
variable {ok : Ok}
set_option maxRecDepth 10000
attribute [local irreducible] LX LG EL STG SOP SGO SGD SAL SRD SEF SEG SLK SCK ES
-- @veq
theorem mapI : mpOk Tryd.prog 90 3 3 (.int .i64 0) := ⟨Tryd.underlying90, Tryd.underlying3, by kernel_rfl, rfl⟩
/-- the state that the collecting call keeps: pm, po: its boxes; r: its map -/
def VarJ (H0 : Heap) (pm po r : Nat) (S : Nat → Prop) (pre : List Int) (H : Heap) : Prop :=
  HX H0 H ∧ H.get pm = some (.row [.map (some r)] 90) ∧ ∃ v M Sb, H.get po = some (.row [v] 46) ∧ MapR H r M ∧ (∀ n, mGet M n = none ↔ n ∉ uniq pre) ∧ IntL H 3 Sb (uniq pre) v ∧
    (∀ n, S n ↔ (n = r ∨ n = po ∨ Sb n)) ∧ (∀ n, Sb n → n ≠ pm ∧ n ≠ po ∧ n ≠ r ∧ H0.next ≤ n ∧ n < H.next)

-- term.variables$1
set_option maxHeartbeats 4000000 in
theorem varEach {H0 : Heap} {pm po r : Nat} {tot : List Int} (h1 : H0.next ≤ pm) (h2 : H0.next ≤ po) (h3 : H0.next ≤ r) (h12 : pm ≠ po) (h13 : pm ≠ r) (h23 : po ≠ r) (hlen : tot.length ≤ most) :
    Each 95 #[.pointer (some ⟨pm, 0, none⟩), .pointer (some ⟨po, 0, none⟩)] H0 tot (VarJ H0 pm po r) := by
  have ean : apOk Tryd.prog 46 3 1 := ap46
  refine ⟨fun S pre H h => h.1, ?_, ?_, ?_⟩
  · rintro S pre H ⟨hx, gm, v, M, Sb, go, hm, hk, hi, hS, hSb⟩ n hn
    rcases (hS n).1 hn with rfl | rfl | h
    · exact hm.lt hx.wf
    · exact hx.wf _ _ go
    · exact (hSb n h).2.2.2.2
  · rintro S pre n H ⟨hx, gm, v, M, Sb, go, hm, hk, hi, hS, hSb⟩ hpre
    have hw := hx.wf
    have lm : H.load ⟨pm, 0, none⟩ 1 = some [.map (some r)] := by unfold Heap.load Heap.cells; simp only [gm]; rfl
    have lo : H.load ⟨po, 0, none⟩ 1 = some [v] := by unfold Heap.load Heap.cells; simp only [go]; rfl
    refine EvF.enter rfl Tryd.func95 (by decide) rfl ?_
    by_cases hn : n ∈ uniq pre
    · have hg : mGet M n ≠ none := fun h => (hk n).1 h hn
      obtain ⟨u, hu⟩ := Option.ne_none_iff_exists'.1 hg
      repeat' (first | refine EvC.seq ?_ | refine EvC.scope ?_ | refine EvC.block ?_ | (refine EvC.skip ?_) | (refine EvC.exit ?_) | (refine EvC.ret ?_; try simp only [thenC_ret, inBlock_ret]) | (refine EvC.reg ?_; simp (config := { maxSteps := 2000000 }) (disch := first | omega | rfl) only [sA, initTm, Nat.reduceEqDiff, Nat.reduceAdd, reduceCtorEq, if_true, if_false, ld90, lm, dop_lookup, dLk_some mapI hm hu, Bool.not_true]) | (refine EvC.condT ?_ ?_; simp (config := { maxSteps := 2000000 }) (disch := first | omega | rfl) only [sA, Nat.reduceEqDiff, reduceCtorEq, if_true, if_false]; refine EvC_go ?_) | (refine EvC.condF ?_ ?_; simp (config := { maxSteps := 2000000 }) (disch := first | omega | rfl) only [sA, Nat.reduceEqDiff, reduceCtorEq, if_true, if_false]; refine EvC_go ?_))
      refine leave_zero' rfl ⟨S, ⟨hx, gm, v, M, Sb, go, hm, ?_, ?_, hS, hSb⟩, HK.refl hw, fun n h => .inl h⟩
      · rw [uniq_snoc, addU, if_pos hn]; exact hk
      · rw [uniq_snoc, addU, if_pos hn]; exact hi
    · have hg : mGet M n = none := (hk n).2 hn
      obtain ⟨a, c, rfl, hc1, hc2⟩ := hi.slice
      obtain ⟨B, eu, hm2⟩ := dUp_new (v := .int .i64 (uniq pre).length) mapI hm hg
      have lr := hm.lt hw
      have h23' : (po = r) = False := eq_false h23
      repeat' (first | refine EvC.seq ?_ | refine EvC.scope ?_ | refine EvC.block ?_ | (refine EvC.skip ?_) | (refine EvC.exit ?_) | (refine EvC.ret ?_; try simp only [thenC_ret, inBlock_ret]) | (refine EvC.reg ?_; simp (config := { maxSteps := 2000000 }) (disch := first | omega | rfl) only [sA, initTm, Nat.reduceEqDiff, Nat.reduceAdd, Value.cells, one, reduceCtorEq, if_true, if_false, cutC, layC, ld90, ld46, ln46, bs46_1, lm, lo, dop_lookup, dop_mapUpdate, dLk_none mapI hm hg, eu, Bool.not_false, h23']) | (refine EvC.condT ?_ ?_; simp (config := { maxSteps := 2000000 }) (disch := first | omega | rfl) only [sA, Nat.reduceEqDiff, reduceCtorEq, if_true, if_false]; refine EvC_go ?_))
      have hk1 : HK S H (H.put r (some B)) := (HK.refl hw).put (.inl ((hS r).2 (.inl rfl))) lr _
      have go1 : (H.put r (some B)).get po = some (.row [.slice a (uniq pre).length c] 46) := by rw [get_put, if_neg h23]; exact go
      have gm1 : (H.put r (some B)).get pm = some (.row [.map (some r)] 90) := by rw [get_put, if_neg h13]; exact gm
      have hi1 : IntL (H.put r (some B)) 3 Sb (uniq pre) (.slice a (uniq pre).length c) := hi.heap (fun n hn _ => by rw [get_put, if_neg (hSb n hn).2.2.1]) hw
      have hn1 : (H.put r (some B)).next = H.next := next_put
      have hx1 : HX H0 (H.put r (some B)) := hx.put h3 lr _
      generalize H.put r (some B) = H1 at *
      obtain ⟨H6, e6, hx6, g6, hn6, hw6⟩ := new1 hk1.wf (.row [.int .i64 n] 3)
      simp only [e6]
      rw [hn1] at g6
      have l6 : H6.load ⟨H.next, 0, none⟩ (1 * 1) = some [.int .i64 n] := by unfold Heap.load Heap.cells; simp only [g6]; rfl
      have hul := uniq_len pre
      have hpl := hpre.length_le
      rw [List.length_append, List.length_singleton] at hpl
      obtain ⟨H7, v7, e7, hi7, hk7, hn7⟩ := IntL.push (S2 := fun n => n = H6.next) (c1 := 1) ean (hi1.heap (fun n _ hl => hx6.keep n hl) hk1.wf) hw6 l6 (by omega) rfl
      have go7 : H7.get po = some (.row [.slice a (uniq pre).length c] 46) := hk7.get hw6 (hx6.get hk1.wf go1) (fun h => (hSb _ h).2.1 rfl)
      have gm7 : H7.get pm = some (.row [.map (some r)] 90) := hk7.get hw6 (hx6.get hk1.wf gm1) (fun h => (hSb _ h).1 rfl)
      have lpo := hk1.wf _ _ go1
      have lpm := hk1.wf _ _ gm1
      have hm7 : MapR H7 r (M ++ [(n, .int .i64 (uniq pre).length)]) := (hm2.heap (hx6.keep r (by omega))).heap (hk7.keep r (by omega) (fun h => (hSb _ h).2.2.1 rfl))
      obtain ⟨a7, c7, rfl, -⟩ := hi7.slice
      repeat' (first | refine EvC.seq ?_ | refine EvC.scope ?_ | refine EvC.block ?_ | (refine EvC.skip ?_) | (refine EvC.exit ?_) | (refine EvC.ret ?_; try simp only [thenC_ret, inBlock_ret]) | (refine LX_go ?_; simp (config := { maxSteps := 2000000 }) (disch := first | omega | rfl) only [sA, Nat.reduceEqDiff, one, reduceCtorEq, if_true, if_false, st46, e7, go7]))
      have hS7 : HK S H (H7.put po (some (.row [.slice a7 (uniq pre ++ [n]).length c7] 46))) := ((hk1.trans (hx6.hk S)).step hk7 fun m _ hm => (hS m).2 (.inr (.inr hm))).put (.inl ((hS po).2 (.inr (.inl rfl)))) (hk7.wf _ _ go7) _
      refine leave_zero' rfl ⟨fun m => m = r ∨ m = po ∨ m = H6.next, ⟨hx.then hS7 fun m hm hs => ?_, by rw [get_put, if_neg h12]; exact gm7, .slice a7 (uniq pre ++ [n]).length c7, M ++ [(n, .int .i64 (uniq pre).length)], fun m => m = H6.next, by rw [get_put, if_pos rfl], ?_, ?_, ?_, fun m => Iff.rfl, ?_⟩, hS7, ?_⟩
      · rcases (hS m).1 hs with rfl | rfl | h
        · omega
        · omega
        · have := hSb m h; omega
      · exact hm7.heap (by rw [get_put, if_neg (fun h => h23 h.symm)])
      · intro m
        rw [mGet_snoc hg, uniq_snoc, addU, if_neg hn]
        by_cases hmn : m = n
        · rw [if_pos hmn]; simp [hmn]
        · rw [if_neg hmn, hk m]; simp [hmn]
      · rw [uniq_snoc, addU, if_neg hn]
        exact hi7.heap (fun m hm _ => by have hm : m = H6.next := hm; rw [get_put, if_neg (by omega)]) hk7.wf
      · rintro m rfl
        rw [next_put]
        exact ⟨by omega, by omega, by omega, by have := hx.next; omega, by omega⟩
      · rintro m (rfl | rfl | rfl)
        · exact .inl ((hS _).2 (.inl rfl))
        · exact .inl ((hS _).2 (.inr (.inl rfl)))
        · exact .inr (by omega)
  · rintro S pre H H' ⟨hx, gm, v, M, Sb, go, hm, hk, hi, hS, hSb⟩ hx'
    exact ⟨hx.trans hx', hx'.get hx.wf gm, v, M, Sb, hx'.get hx.wf go, hm.heap (hx'.keep _ (hm.lt hx.wf)), hk, hi.heap (fun n _ hl => hx'.keep n hl) hx.wf, hS, fun n hn => by have := hSb n hn; have := hx'.next; exact ⟨by omega, by omega, by omega, by omega, by omega⟩⟩
end Go.Proofs.YtlllbkjiadcloaaDoor.hb
end

-- U3
section
/- The variables of some terms, each once: 'variables', 'Variables'. -/
namespace Go.Proofs.YtlllbkjiadcloaaDoor.hb
open Go Go.RowKit Go.Hb
variable {ok : Ok}
set_option maxRecDepth 10000
attribute [local irreducible] LX LG EL STG SOP SGO SGD SAL SRD SEF SEG SLK SCK ES
-- @veq
-- term.variables
set_option maxHeartbeats 4000000 in
theorem variables_ev {l : List Tm} {a : Option Addr} {c : Nat} {cells : Nat → List Value} {H : Heap} (rl : RepL H l a c cells) (hlen : (occL l).length ≤ most) (hw : H.wf) :
    EvF Tryd.prog okT 66 [.slice a l.length c] H fun v H' => IntL H' 3 (Rg H.next H'.next) (uniq (occL l)) v ∧ HX H H' := by
  have hm := rl.max
  refine EvF.enter rfl Tryd.func66 (by decide) rfl ?_
  repeat' (first | refine EvC.seq ?_ | refine EvC.scope ?_ | refine EvC.block ?_ | (refine EvC.skip ?_) | (refine EvC.exit ?_) | (refine EvC.ret ?_; try simp only [thenC_ret, inBlock_ret]) | (refine EvC.reg ?_; simp (config := { maxSteps := 2000000 }) (disch := first | omega | rfl) only [sA, initTm, dAlloc, Nat.reduceEqDiff, one, reduceCtorEq, if_true, if_false, zr46, zr90, st90, ln24, dop_makeMap]))
  have E := varEach (H0 := H) (pm := H.next + 1 + 1) (po := H.next) (r := H.next + 1) (tot := occL l) (by omega) (by omega) (by omega) (by omega) (by omega) (by omega) hlen
  refine EvC.loop (fun k st => ∃ tm H' i S, st = ⟨tm, [], H'⟩ ∧ k = l.length - i ∧ i ≤ l.length ∧ tm.get 3 = some (.pointer (some ⟨H.next, 0, none⟩)) ∧ tm.get 4 = some (.pointer (some ⟨H.next + 1 + 1, 0, none⟩)) ∧ tm.get 8 = some (.slice a l.length c) ∧ tm.get 9 = some (.int .i64 l.length) ∧ tm.get 10 = some (.int .i64 (i : Nat)) ∧
      VarJ H (H.next + 1 + 1) H.next (H.next + 1) S (occL (l.take i)) H') ?_ l.length _ ?_
  · rintro k st ⟨tm, H', i, S, rfl, rfl, hi, t3, t4, t8, t9, t10, hj⟩
    have hx' := E.base _ _ _ hj
    by_cases hlt : i < l.length
    · obtain ⟨b, o, a1, c1, rfl, hld, hr1⟩ := rl.el hlt
      have hld1 := hx'.load hw hld
      repeat' (first | refine EvC.seq ?_ | refine EvC.scope ?_ | refine EvC.block ?_ | (refine EvC.skip ?_; try simp only [thenC_normal]) | (refine EvC.exit ?_) | (refine EvC.ret ?_; try simp only [thenC_ret, inBlock_ret]) | (refine EvC.reg ?_; simp (config := { maxSteps := 2000000 }) (disch := first | omega | rfl) only [sA, dAlloc, Nat.reduceEqDiff, Nat.reduceAdd, one, if_true, if_false, cutC, ia24, ld26, zr26, st26, cl69, t3, t4, t8, t9, t10, decl hlt, hld1, List.map_toArray]) | (refine EvC.condT ?_ ?_; simp (config := { maxSteps := 2000000 }) (disch := first | omega | rfl) only [sA, if_true]; refine EvC_go ?_))
      obtain ⟨H4, e4, hx4, g4, hn4, hw4⟩ := newput hx'.wf (.row zero6 26) (.row (six l[i] a1 c1) 26)
      simp only [e4]
      have htake := occL_take hlt
      refine (walk_ev hw (by kernel_rfl) E _ (Nat.lt_succ_self _) hr1 (E.stay _ _ _ _ hj hx4) (by rw [← htake]; exact occL_pre _ _)).mono ?_
      rintro v H5 ⟨S5, hj5, -⟩
      repeat' (first | refine EvC.seq ?_ | refine EvC.scope ?_ | refine EvC.block ?_ | (refine EvC.skip ?_) | (refine EvC.exit ?_) | (refine EvC.ret ?_; try simp only [thenC_ret, inBlock_ret]) | (refine EvC.reg ?_; simp (config := { maxSteps := 2000000 }) (disch := first | omega | rfl) only [sA, Nat.reduceEqDiff, if_true, if_false, t10, wrap_i64]))
      exact ⟨l.length - (i + 1), by omega, _, _, i + 1, S5, rfl, rfl, by omega, (by first | (simp only [Tr.get_put, Nat.reduceEqDiff, if_false, t3]; rfl) | simp only [Tr.get_put, Nat.reduceEqDiff, if_false, t3]), (by first | (simp only [Tr.get_put, Nat.reduceEqDiff, if_false, t4]; rfl) | simp only [Tr.get_put, Nat.reduceEqDiff, if_false, t4]), (by first | (simp only [Tr.get_put, Nat.reduceEqDiff, if_false, t8]; rfl) | simp only [Tr.get_put, Nat.reduceEqDiff, if_false, t8]), (by first | (simp only [Tr.get_put, Nat.reduceEqDiff, if_false, t9]; rfl) | simp only [Tr.get_put, Nat.reduceEqDiff, if_false, t9]), (by first | (simp only [sA, Nat.reduceEqDiff, if_true, if_false]; rfl) | simp only []), by rw [htake]; exact hj5⟩
    · obtain ⟨-, gm, v, M, Sb, go, -, -, hi, -, hSb⟩ := hj
      have lo : H'.load ⟨H.next, 0, none⟩ 1 = some [v] := by unfold Heap.load Heap.cells; simp only [go]; rfl
      rw [List.take_of_length_le (by omega)] at hi
      repeat' (first | refine EvC.seq ?_ | refine EvC.scope ?_ | refine EvC.block ?_ | (refine EvC.skip ?_) | (refine EvC.exit ?_; try simp only [sA, if_true]) | (refine EvC.ret ?_; try simp only [thenC_ret, inBlock_ret]) | (refine EvC.reg ?_; simp (config := { maxSteps := 2000000 }) (disch := first | omega | rfl) only [sA, Nat.reduceEqDiff, if_true, if_false, ld46, t3, t9, t10, decn hlt, lo]) | (refine EvC.condT ?_ ?_; simp (config := { maxSteps := 2000000 }) (disch := first | omega | rfl) only [sA, if_true]; refine EvC_go ?_) | (refine EvC.condF ?_ ?_; simp (config := { maxSteps := 2000000 }) (disch := first | omega | rfl) only [sA, if_true]; refine EvC_go ?_))
      refine leave_one rfl (by first | (simp only [sA, Nat.reduceEqDiff, if_true, if_false]; rfl) | simp only []) ⟨?_, hx'⟩
      rcases hi with h | ⟨b, c', h1, h2, h3, h4, h5⟩
      · exact .inl h
      · exact .inr ⟨b, c', h1, h2, h3, h4, by have := hSb _ h5; exact ⟨by omega, by omega⟩⟩
  · obtain ⟨H1, e1, hx1, g1, n1, w1⟩ := new1 hw (.row [.slice none 0 0] 46)
    obtain ⟨H2, e2, hx2, g2, n2, w2⟩ := new1 w1 (.map [] 0)
    obtain ⟨H3, e3, hx3, g3, n3, w3⟩ := newput w2 (.row [.map none] 90) (.row [.map (some (H.next + 1))] 90)
    have n2' : H2.next = H.next + 1 + 1 := by omega
    rw [n2'] at e3 g3
    simp only [e1, e2, e3]
    have hx := (hx1.trans hx2).trans hx3
    refine ⟨_, _, 0, fun n => n = H.next + 1 ∨ n = H.next ∨ False, rfl, rfl, by omega, (by first | (simp only [Tr.get_put, Nat.reduceEqDiff, reduceCtorEq, if_true, if_false]; rfl) | simp only [Tr.get_put, Nat.reduceEqDiff, reduceCtorEq, if_true, if_false]), (by first | (simp only [Tr.get_put, Nat.reduceEqDiff, reduceCtorEq, if_true, if_false]; rfl) | simp only [Tr.get_put, Nat.reduceEqDiff, reduceCtorEq, if_true, if_false]), (by first | (simp only [Tr.get_put, Nat.reduceEqDiff, reduceCtorEq, if_true, if_false]; rfl) | simp only [Tr.get_put, Nat.reduceEqDiff, reduceCtorEq, if_true, if_false]), (by first | (simp only [Tr.get_put, Nat.reduceEqDiff, reduceCtorEq, if_true, if_false]; rfl) | simp only [Tr.get_put, Nat.reduceEqDiff, reduceCtorEq, if_true, if_false]), (by first | (simp only [sA, Nat.reduceEqDiff, reduceCtorEq, if_true, if_false]; rfl) | simp only []), hx, g3, .slice none 0 0, [], fun _ => False, hx3.get w2 (hx2.get w1 g1), ⟨[], 0, ?_, rfl⟩, fun n => ?_, ?_, fun n => Iff.rfl, fun n h => h.elim⟩
    · rw [n1] at g2; exact hx3.get w2 g2
    · rw [List.take_zero, occL]; simp [uniq, mGet]
    · rw [List.take_zero, occL]; exact .inl ⟨rfl, rfl⟩

-- term.Variables
theorem variablesV_ev {l : List Tm} {a : Option Addr} {c : Nat} {cells : Nat → List Value} {H : Heap} (rl : RepL H l a c cells) (hlen : (occL l).length ≤ most) (hw : H.wf) :
    EvF Tryd.prog okT 29 [.slice a l.length c] H fun v H' => ∃ u, v = .tuple #[u, .int .i64 (chkL l)] ∧ IntL H' 3 (Rg H.next H'.next) (if chkL l = 0 then uniq (occL l) else []) u ∧ HX H H' := by
  refine EvF.enter rfl Tryd.func29 (by decide) rfl ?_
  repeat' (first | refine EvC.seq ?_ | refine EvC.scope ?_ | refine EvC.block ?_ | (refine EvC.skip ?_) | (refine EvC.exit ?_) | (refine EvC.ret ?_; try simp only [thenC_ret, inBlock_ret]) | (refine EvC.reg ?_; simp (config := { maxSteps := 2000000 }) (disch := first | omega | rfl) only [sA, initTm, Nat.reduceEqDiff, reduceCtorEq, if_true, if_false, cl52]))
  refine (checks_ev rl hw).mono ?_
  rintro v H2 ⟨rfl, hx2⟩
  by_cases h0 : chkL l = 0
  · repeat' (first | refine EvC.seq ?_ | refine EvC.scope ?_ | refine EvC.block ?_ | (refine EvC.skip ?_; try simp only [thenC_normal]) | (refine EvC.exit ?_) | (refine EvC.ret ?_; try simp only [thenC_ret, inBlock_ret]) | (refine EvC.reg ?_; simp (config := { maxSteps := 2000000 }) (disch := first | omega | rfl) only [sA, Nat.reduceEqDiff, reduceCtorEq, if_true, if_false, cl66, ine_f h0]) | (refine EvC.condT ?_ ?_; simp (config := { maxSteps := 2000000 }) (disch := first | omega | rfl) only [sA, Nat.reduceEqDiff, reduceCtorEq, if_true, if_false]; refine EvC_go ?_) | (refine EvC.condF ?_ ?_; simp (config := { maxSteps := 2000000 }) (disch := first | omega | rfl) only [sA, Nat.reduceEqDiff, reduceCtorEq, if_true, if_false]; refine EvC_go ?_))
    refine (variables_ev (rl.mono hx2 hw) hlen hx2.wf).mono ?_
    rintro v H3 ⟨hi, hx3⟩
    repeat' (first | refine EvC.seq ?_ | refine EvC.scope ?_ | refine EvC.block ?_ | (refine EvC.skip ?_) | (refine EvC.exit ?_) | (refine EvC.ret ?_; try simp only [thenC_ret, inBlock_ret]))
    refine leave_two rfl (by first | (simp only [sA, Nat.reduceEqDiff, reduceCtorEq, if_true, if_false]; rfl) | simp only []) (by first | (simp only [sA, Nat.reduceEqDiff, reduceCtorEq, if_true, if_false]; rfl) | simp only []) ⟨v, by rw [h0], ?_, hx2.trans hx3⟩
    rw [if_pos h0]
    rcases hi with h | ⟨b, c', h1, h2, h3, h4, h5⟩
    · exact .inl h
    · exact .inr ⟨b, c', h1, h2, h3, h4, by have := hx2.next; exact ⟨by have := h5.1; omega, h5.2⟩⟩
  · repeat' (first | refine EvC.seq ?_ | refine EvC.scope ?_ | refine EvC.block ?_ | (refine EvC.skip ?_) | (refine EvC.exit ?_) | (refine EvC.ret ?_; try simp only [thenC_ret, inBlock_ret]) | (refine EvC.reg ?_; simp (config := { maxSteps := 2000000 }) (disch := first | omega | rfl) only [sA, Nat.reduceEqDiff, reduceCtorEq, if_true, if_false, ine_t h0]) | (refine EvC.condT ?_ ?_; simp (config := { maxSteps := 2000000 }) (disch := first | omega | rfl) only [sA, Nat.reduceEqDiff, reduceCtorEq, if_true, if_false]; refine EvC_go ?_))
    exact leave_two rfl (by first | (simp only [sA, Nat.reduceEqDiff, reduceCtorEq, if_true, if_false]; rfl) | simp only []) (by first | (simp only [Tr.get_put, Nat.reduceEqDiff, reduceCtorEq, if_true, if_false]; rfl) | simp only [Tr.get_put, Nat.reduceEqDiff, reduceCtorEq, if_true, if_false]) ⟨_, rfl, by rw [if_neg h0]; exact .inl ⟨rfl, rfl⟩, hx2⟩
end Go.Proofs.YtlllbkjiadcloaaDoor.hb
end

-- U4
section
/- Terms with others in the places of variables: the program's. -/
namespace Go.Proofs.YtlllbkjiadcloaaDoor.hb
open Go Go.RowKit Go.Hb
variable {ok : Ok}
set_option maxRecDepth 10000
attribute [local irreducible] LX LG EL STG SOP SGO SGD SAL SRD SEF SEG SLK SCK ES
-- @veq
mutual
/-- a term with others in the places of its variables -/
def sub (σ : Int → Tm) : Tm → Tm
  | .mk k s u b v l => if k = 1 then σ v else .mk k s u b v (subL σ l)
def subL (σ : Int → Tm) : List Tm → List Tm
  | [] => []
  | t :: l => sub σ t :: subL σ l
end
theorem subL_map (σ : Int → Tm) : ∀ l : List Tm, subL σ l = l.map (sub σ)
  | [] => by rw [subL]; rfl
  | t :: l => by rw [subL, subL_map σ l]; rfl
theorem sub_var {σ : Int → Tm} {t : Tm} (h : t.kind = 1) : sub σ t = σ t.var := by
  obtain ⟨k, s, u, b, v, l⟩ := t
  rw [sub, if_pos (show k = 1 from h)]; rfl
theorem sub_mk {σ : Int → Tm} {t : Tm} (h : t.kind ≠ 1) : sub σ t = .mk t.kind t.name t.num t.bits t.var (t.args.map (sub σ)) := by
  obtain ⟨k, s, u, b, v, l⟩ := t
  rw [sub, if_neg (show ¬ k = 1 from h), subL_map]; rfl
/-- a call that tells a term for each number, and says that it is there -/
structure ByAll (g : FuncId) (cap : Array Value) (σ : Int → Tm) (J : Heap → Prop) : Prop where
  step : ∀ n H, i64 n → J H → H.wf → EvF Tryd.prog okT g ([.int .i64 n] ++ cap.toList) H fun v H' => (∃ cs, v = .tuple #[.agg ⟨cs⟩, .bool true] ∧ RepT H' (σ n) cs) ∧ HX H H'
  stay : ∀ H H', J H → HX H H' → J H'
  fine : ∀ n, 0 ≤ n → Fine (σ n)

-- term.turned
set_option maxHeartbeats 4000000 in
theorem turned_ev {g : FuncId} {cap : Array Value} {σ : Int → Tm} {J : Heap → Prop} (hg : callable Tryd.prog g = true) (B : ByAll g cap σ J) {m : Nat} : ∀ {t : Tm} {cs : List Value} {H : Heap}, SizeOf.sizeOf t < m → RepT H t cs → Fine t → J H → H.wf →
    EvF Tryd.prog okT 67 [.agg ⟨cs⟩, .func (.func g) #[] cap] H fun v H' => ∃ cs', v = .agg ⟨cs'⟩ ∧ RepF H' 26 (Rg H.next H'.next) (sub σ t) cs' ∧ HX H H' := by
  induction m with
  | zero => intro t cs H h; omega
  | succ m ih =>
  intro t cs H hsz r hf hj hw
  have hbd := r.bd
  have hfew := fine_few hf
  have hvar := (node_kind hf.node).2.2.2.1
  obtain ⟨a, c, cells, rfl, -, -, -, -, -, rl⟩ := r.six
  refine EvF.enter rfl Tryd.func67 (by decide) rfl ?_
  (repeat refine EvC.seq ?_); refine EvC.reg ?_; simp (config := { maxSteps := 2000000 }) (disch := first | omega | rfl) only [sA, initTm, dBox, dAlloc, Value.cells, one, reduceCtorEq, if_true, if_false, zr26]
  obtain ⟨H2, e2, hx2, gp, gq, hn2, hw2⟩ := new2 hw (.row (six t a c) 26) (.row zero6 26)
  simp only [e2]
  have q1 := row6 gp
  clear e2
  have hmost : t.args.length ≤ most := by unfold most; omega
  have ne1 : (H.next + 1 = H.next) = False := by simp
  have ne2 : (H.next = H.next + 1) = False := by simp
  by_cases k1 : t.kind = 1
  · repeat' (first | refine EvC.seq ?_ | refine EvC.scope ?_ | refine EvC.block ?_ | (refine EvC.skip ?_) | (refine EvC.exit ?_) | (refine EvC.ret ?_; try simp only [thenC_ret, inBlock_ret]) | (refine EvC.reg ?_; simp (config := { maxSteps := 2000000 }) (disch := first | omega | rfl) only [sA, Nat.reduceEqDiff, reduceCtorEq, if_true, if_false, fa26_0, ld3, fa26_4, q1, ieq_t k1, dop_callT, dCallV_func hg]) | (refine EvC.condT ?_ ?_; simp (config := { maxSteps := 2000000 }) (disch := first | omega | rfl) only [sA, Nat.reduceEqDiff, reduceCtorEq, if_true, if_false]; refine EvC_go ?_))
    refine (B.step t.var H2 hbd.var (B.stay _ _ hj hx2) hw2).mono ?_
    rintro v H3 ⟨⟨cs, rfl, r3⟩, hx3⟩
    obtain ⟨a3, c3, cells3, rfl, -⟩ := r3.six
    have gq3 := hx3.get hw2 gq
    repeat' (first | refine EvC.seq ?_ | refine EvC.scope ?_ | refine EvC.block ?_ | (refine EvC.skip ?_) | (refine EvC.exit ?_) | (refine EvC.ret ?_; try simp only [thenC_ret, inBlock_ret]) | (refine EvC.reg ?_; simp (config := { maxSteps := 2000000 }) (disch := first | omega | rfl) only [sA, Nat.reduceEqDiff, Nat.reduceAdd, reduceCtorEq, if_true, if_false, cutC, ld26, cl61]) | (refine LX_go ?_; simp (config := { maxSteps := 2000000 }) (disch := first | omega | rfl) only [sA, dAlloc, Nat.reduceEqDiff, Nat.reduceAdd, one, reduceCtorEq, if_true, if_false, zr26, st26]) | (refine EvC.condT ?_ ?_; simp (config := { maxSteps := 2000000 }) (disch := first | omega | rfl) only [sA, Nat.reduceEqDiff, reduceCtorEq, if_true, if_false]; refine EvC_go ?_))
    obtain ⟨H4, e4, hx4, g4, hn4, hw4⟩ := newput hx3.wf (.row zero6 26) (.row (six (σ t.var) a3 c3) 26)
    simp only [e4]
    have hx34 := hx3.trans hx4
    refine (ownT_ev (Nat.lt_succ_self _) (r3.mono hx4 hx3.wf) (B.fine _ hvar) hw4).mono ?_
    rintro v H5 ⟨c5, rfl, ⟨a5, k5, rfl, hb5, hf5⟩, hx5⟩
    have gq5 := hx5.get hw4 (hx4.get hx3.wf gq3)
    have hx25 := hx34.trans hx5
    have n24 := hx34.next
    have n25 := hx25.next
    repeat' (first | refine EvC.seq ?_ | refine EvC.scope ?_ | refine EvC.block ?_ | (refine EvC.skip ?_) | (refine EvC.exit ?_) | (refine EvC.ret ?_; try simp only [thenC_ret, inBlock_ret]) | (refine LX_go ?_; simp (config := { maxSteps := 2000000 }) (disch := first | omega | rfl) only [sA, Nat.reduceAdd, one, if_true, st26, gq5]))
    refine leave_cell rfl (by first | (simp only [sA, Nat.reduceEqDiff, reduceCtorEq, if_true, if_false]; rfl) | simp only []) (by first | (simp only [sA, Nat.reduceAdd, if_true, cutC, ld26]; rfl) | simp only []) ⟨_, rfl, ⟨a5, k5, by rw [sub_var k1], by rw [sub_var k1]; exact hb5, ?_⟩, (hx2.trans hx25).pt (by omega) gq5 _⟩
    rw [sub_var k1]
    refine (hf5.heap (fun n hn _ => ?_) hx5.wf).sub fun n hn => ⟨by have := hn.1; omega, hn.2⟩
    have := hn.1
    rw [get_put, if_neg (by omega)]
  have hsub := sub_mk (σ := σ) k1
  have hsa : (sub σ t).args = t.args.map (sub σ) := by rw [hsub]; rfl
  have hbd' : Bd (sub σ t) := by rw [hsub]; exact ⟨hbd.kind, hbd.name, hbd.num, hbd.bits, hbd.var⟩
  have hsix : ∀ a c, six (sub σ t) a c = [.int .i64 t.kind, .string t.name, .string t.num, .int .u64 t.bits, .int .i64 t.var, .slice a t.args.length c] := fun a c => by rw [hsub]; simp [six, Tm.kind, Tm.name, Tm.num, Tm.bits, Tm.var, Tm.args]
  by_cases h0 : t.args.length = 0
  · have h0' : (t.args.length : Int) = 0 := by omega
    have he : t.args = [] := List.length_eq_zero_iff.1 h0
    repeat' (first | refine EvC.seq ?_ | refine EvC.scope ?_ | refine EvC.block ?_ | (refine EvC.skip ?_; try simp only [thenC_normal]) | (refine EvC.exit ?_) | (refine EvC.ret ?_; try simp only [thenC_ret, inBlock_ret]) | (refine EvC.reg ?_; simp (config := { maxSteps := 2000000 }) (disch := first | omega | rfl) only [sA, Nat.reduceEqDiff, Nat.reduceAdd, one, reduceCtorEq, if_true, if_false, cutC, fa26_0, ld3, st26, ld26, fa26_5, ld24, ln24, st24, q1, gp, gq, ieq_f k1, ieq_t h0', ne1]) | (refine EvC.condT ?_ ?_; simp (config := { maxSteps := 2000000 }) (disch := first | omega | rfl) only [sA, Nat.reduceEqDiff, reduceCtorEq, if_true, if_false]; refine EvC_go ?_) | (refine EvC.condF ?_ ?_; simp (config := { maxSteps := 2000000 }) (disch := first | omega | rfl) only [sA, Nat.reduceEqDiff, reduceCtorEq, if_true, if_false]; refine EvC_go ?_))
    have hx3 := (hx2.pt (Nat.le_refl _) gp (some (.row [.int .i64 t.kind, .string t.name, .string t.num, .int .u64 t.bits, .int .i64 t.var, .slice none 0 0] 26))).pt (i := H.next + 1) (Nat.le_succ _) (by rw [get_put, if_neg (by omega)]; exact gq)
      (some (.row [.int .i64 t.kind, .string t.name, .string t.num, .int .u64 t.bits, .int .i64 t.var, .slice none 0 0] 26))
    refine leave_cell rfl (by first | (simp only [sA, Nat.reduceEqDiff, reduceCtorEq, if_true, if_false]; rfl) | simp only []) (by simp only [sA, Nat.reduceAdd, if_true, cutC, ld26]; rfl) ⟨_, rfl, ⟨none, 0, ?_, hbd', ?_⟩, hx3⟩
    · rw [hsix, h0]
    · rw [hsa, he]; exact .nil _
  · have h0' : (t.args.length : Int) ≠ 0 := by omega
    have ne3 : (H.next = H2.next) = False := by simp; omega
    repeat' (first | refine EvC.seq ?_ | refine EvC.scope ?_ | refine EvC.block ?_ | (refine EvC.skip ?_; try simp only [thenC_normal]) | (refine EvC.exit ?_) | (refine EvC.ret ?_; try simp only [thenC_ret, inBlock_ret]) | (refine EvC.reg ?_; simp (config := { maxSteps := 2000000 }) (disch := first | omega | rfl) only [sA, Nat.reduceEqDiff, reduceCtorEq, if_true, if_false, cutC, fa26_0, ld3, fa26_5, ld24, ln24, q1, ieq_f k1, ieq_f h0', dMk_nat mk24, ne3]) | (refine EvC.condT ?_ ?_; simp (config := { maxSteps := 2000000 }) (disch := first | omega | rfl) only [sA, Nat.reduceEqDiff, reduceCtorEq, if_true, if_false]; refine EvC_go ?_) | (refine EvC.condF ?_ ?_; simp (config := { maxSteps := 2000000 }) (disch := first | omega | rfl) only [sA, Nat.reduceEqDiff, reduceCtorEq, if_true, if_false]; refine EvC_go ?_))
    obtain ⟨H3, e3, hx3, gr, hn3, hw3⟩ := new1 hw2 (.row (repL t.args.length zero6) 26)
    simp only [e3]
    clear e3
    have gp3 := hx3.get hw2 gp
    have gq3 := hx3.get hw2 gq
    have hx23 := hx2.trans hx3
    have hmax := rl.max
    rw [hn2] at gr hn3
    refine EvC.loop (fun k st => ∃ tm H' i cells' Si ai ci, st = ⟨tm, [], H'⟩ ∧ k = t.args.length - i ∧ i ≤ t.args.length ∧ tm.get 1 = some (.func (.func g) #[] cap) ∧
      tm.get 2 = some (.pointer (some ⟨H.next, 0, none⟩)) ∧ tm.get 4 = some (.pointer (some ⟨H.next + 1, 0, none⟩)) ∧ tm.get 7 = some (.slice (some ⟨H.next + 2, 0, none⟩) t.args.length t.args.length) ∧
      tm.get 35 = some (.slice a t.args.length c) ∧ tm.get 36 = some (.int .i64 t.args.length) ∧ tm.get 37 = some (.int .i64 (i : Nat)) ∧
      H'.get H.next = some (.row (six t a c) 26) ∧ H'.get (H.next + 1) = some (.row zero6 26) ∧ H'.get (H.next + 2) = some (.row cells' 26) ∧ cells'.length = t.args.length * 6 ∧
      FLs H' 26 (Rg (H.next + 3) H'.next) ((t.args.take i).map (sub σ)) cells' Si ai ci ∧ HX H H') ?_ t.args.length _ ?_
    · rintro k st ⟨tm, H', i, cells', Si, ai, ci, rfl, rfl, hi, t0, t1, t2, t3, t17, t18, t19, gp', gq', gr', hlen, hfl, hx'⟩
      have q1 := row6 gp'
      by_cases hlt : i < t.args.length
      · obtain ⟨b, o, a1, c1, rfl, hld, hr1⟩ := rl.el hlt
        have hld1 := hx'.load hw hld
        repeat' (first | refine EvC.seq ?_ | refine EvC.scope ?_ | refine EvC.block ?_ | (refine EvC.skip ?_; try simp only [thenC_normal]) | (refine EvC.exit ?_) | (refine EvC.ret ?_; try simp only [thenC_ret, inBlock_ret]) | (refine EvC.reg ?_; simp (config := { maxSteps := 2000000 }) (disch := first | omega | rfl) only [sA, dAlloc, Nat.reduceEqDiff, Nat.reduceAdd, one, if_true, if_false, cutC, zr26, st26, ld26, ia24, cl67, t0, t3, t17, t18, t19, decl hlt, hld1]) | (refine EvC.condT ?_ ?_; simp (config := { maxSteps := 2000000 }) (disch := first | omega | rfl) only [sA, if_true]; refine EvC_go ?_))
        obtain ⟨H4, e4, hx4, g4, hn4, hw4⟩ := newput hx'.wf (.row zero6 26) (.row (six t.args[i] a1 c1) 26)
        simp only [e4]
        clear e4
        have hs := args_size (List.getElem?_eq_getElem hlt)
        refine (ih (t := t.args[i]) (by omega) (hr1.mono (hx'.trans hx4) hw) (hf.args _ (List.getElem_mem _)) (B.stay _ _ hj (hx'.trans hx4)) hw4).mono ?_
        rintro v H5 ⟨cs', rfl, ⟨a2, c2, rfl, hb2, hf2⟩, hx5⟩
        have hx45 := hx4.trans hx5
        have gr5 := hx45.get hx'.wf gr'
        have gp5 := hx45.get hx'.wf gp'
        have gq5 := hx45.get hx'.wf gq'
        have hle : i * 6 + 6 ≤ cells'.length := by rw [hlen]; exact mul6 hlt
        have hln := hx45.next
        have hln2 := hx5.next
        have hlt3 := hx'.wf _ _ gq'
        have hlt4 := hx'.wf _ _ gr'
        repeat' (first | refine EvC.seq ?_ | refine EvC.scope ?_ | refine EvC.block ?_ | (refine EvC.skip ?_) | (refine EvC.exit ?_) | (refine EvC.ret ?_; try simp only [thenC_ret, inBlock_ret]) | (refine EvC.reg ?_; simp (config := { maxSteps := 2000000 }) (disch := first | omega | rfl) only [sA, Nat.reduceEqDiff, if_true, if_false, t19, wrap_i64]) | (refine LX_go ?_; simp (config := { maxSteps := 2000000 }) (disch := first | omega | rfl) only [sA, Nat.reduceAdd, one, if_true, st26, gr5, hle]))
        have hx6 := (hx'.trans hx45).pt (i := H.next + 2) (by omega) gr5 (some (.row (Hb.splice cells' (i * 6) (six (sub σ t.args[i]) a2 c2)) 26))
        have et : (t.args.take (i + 1)).map (sub σ) = (t.args.take i).map (sub σ) ++ [sub σ t.args[i]] := by rw [← List.take_append_getElem hlt, List.map_append]; rfl
        have etl : ((t.args.take i).map (sub σ)).length = i := by rw [List.length_map, List.length_take]; omega
        obtain ⟨Si', ai', ci', hsn⟩ : ∃ Si ai ci, FLs (H5.put (H.next + 2) (some (.row (Hb.splice cells' (i * 6) (six (sub σ t.args[i]) a2 c2)) 26))) 26 (Rg (H.next + 3) H5.next) ((t.args.take (i + 1)).map (sub σ)) (Hb.splice cells' (i * 6) (six (sub σ t.args[i]) a2 c2)) Si ai ci := by
          rw [et]
          refine ⟨_, _, _, hfl.snoc (S' := Rg (H.next + 3) H5.next) (N := Rg H4.next H5.next) (fun n hn hl => ?_) hx'.wf (hf2.heap (fun n hn hl => ?_) hx5.wf) hb2 (fun n hn hs => ?_) (fun n hn => ?_) (fun n hn => ?_) (fun j hj => ?_) ?_⟩
          · have := hn.1
            rw [get_put, if_neg (by omega)]; exact hx45.keep n hl
          · have := hn.1
            rw [get_put, if_neg (by omega)]
          · have := hn.1; have := hs.2; omega
          · exact ⟨hn.1, by have := hn.2; omega⟩
          · exact ⟨by have := hn.1; omega, hn.2⟩
          · rw [etl] at hj
            exact splice_other hle rfl (.inl (mul6 hj))
          · rw [etl]
            exact splice_same hle rfl
        exact ⟨t.args.length - (i + 1), by omega, _, _, i + 1, Hb.splice cells' (i * 6) (six (sub σ t.args[i]) a2 c2), Si', ai', ci', rfl, rfl, by omega, (by first | (simp only [Tr.get_put, Nat.reduceEqDiff, if_false, t0]; rfl) | simp only [Tr.get_put, Nat.reduceEqDiff, if_false, t0]), (by first | (simp only [Tr.get_put, Nat.reduceEqDiff, if_false, t1]; rfl) | simp only [Tr.get_put, Nat.reduceEqDiff, if_false, t1]), (by first | (simp only [Tr.get_put, Nat.reduceEqDiff, if_false, t2]; rfl) | simp only [Tr.get_put, Nat.reduceEqDiff, if_false, t2]), (by first | (simp only [Tr.get_put, Nat.reduceEqDiff, if_false, t3]; rfl) | simp only [Tr.get_put, Nat.reduceEqDiff, if_false, t3]), (by first | (simp only [Tr.get_put, Nat.reduceEqDiff, if_false, t17]; rfl) | simp only [Tr.get_put, Nat.reduceEqDiff, if_false, t17]), (by first | (simp only [Tr.get_put, Nat.reduceEqDiff, if_false, t18]; rfl) | simp only [Tr.get_put, Nat.reduceEqDiff, if_false, t18]), (by first | (simp only [sA, Nat.reduceEqDiff, if_true, if_false]; rfl) | simp only []),
          by rw [get_put, if_neg (by omega)]; exact gp5, by rw [get_put, if_neg (by omega)]; exact gq5, by rw [get_put, if_pos rfl], by rw [splice_len hle]; exact hlen, hsn, hx6⟩
      · repeat' (first | refine EvC.seq ?_ | refine EvC.scope ?_ | refine EvC.block ?_ | (refine EvC.skip ?_) | (refine EvC.exit ?_; try simp only [sA, if_true]) | (refine EvC.ret ?_; try simp only [thenC_ret, inBlock_ret]) | (refine EvC.reg ?_; simp (config := { maxSteps := 2000000 }) (disch := first | omega | rfl) only [sA, Nat.reduceEqDiff, Nat.reduceAdd, one, if_true, if_false, cutC, st26, ld26, fa26_5, st24, t1, t2, t3, t18, t19, q1, gp', gq', decn hlt, ne1]) | (refine EvC.condT ?_ ?_; simp (config := { maxSteps := 2000000 }) (disch := first | omega | rfl) only [sA, if_true]; refine EvC_go ?_) | (refine EvC.condF ?_ ?_; simp (config := { maxSteps := 2000000 }) (disch := first | omega | rfl) only [sA, if_true]; refine EvC_go ?_))
        have hi' : i = t.args.length := by omega
        have hlt3 := hx'.wf _ _ gr'
        have hx7 := (hx'.pt (Nat.le_refl _) gp' (some (.row (six t (some ⟨H.next + 2, 0, none⟩) t.args.length) 26))).pt (i := H.next + 1) (Nat.le_succ _) (by rw [get_put, if_neg (by omega)]; exact gq')
          (some (.row (six t (some ⟨H.next + 2, 0, none⟩) t.args.length) 26))
        refine leave_cell rfl (by first | (simp only [sA, Nat.reduceEqDiff, if_false, t2]; rfl) | simp only []) (by first | (simp only [sA, Nat.reduceAdd, if_true, cutC, ld26]; rfl) | simp only []) ⟨_, rfl, ⟨some ⟨H.next + 2, 0, none⟩, t.args.length, by rw [hsix], hbd', ?_⟩, hx7⟩
        rw [hi', List.take_of_length_le (Nat.le_refl _), ← hsa] at hfl
        have hsl : (sub σ t).args.length = t.args.length := by rw [hsa, List.length_map]
        refine (hfl.heap (fun n hn _ => ?_) hx'.wf).row (by omega) (Nat.le_trans hfew (by simp [maxLen])) (cells := cells') ?_ (by omega) ⟨by omega, hlt3⟩ (fun h => ?_) (fun n hn => ⟨by have := hn.1; omega, hn.2⟩)
        · have := hn.1
          rw [get_put, if_neg (by omega), get_put, if_neg (by omega)]
        · rw [get_put, if_neg (by omega), get_put, if_neg (by omega)]; exact gr'
        · have := h.1; omega
    · refine ⟨_, _, 0, repL t.args.length zero6, fun _ _ => False, fun _ => none, fun _ => 0, rfl, rfl, by omega, (by first | (simp only [Tr.get_put, Nat.reduceEqDiff, reduceCtorEq, if_true, if_false]; rfl) | simp only [Tr.get_put, Nat.reduceEqDiff, reduceCtorEq, if_true, if_false]), (by first | (simp only [Tr.get_put, Nat.reduceEqDiff, reduceCtorEq, if_true, if_false]; rfl) | simp only [Tr.get_put, Nat.reduceEqDiff, reduceCtorEq, if_true, if_false]), (by first | (simp only [Tr.get_put, Nat.reduceEqDiff, reduceCtorEq, if_true, if_false]; rfl) | simp only [Tr.get_put, Nat.reduceEqDiff, reduceCtorEq, if_true, if_false]), by rw [hn2]; first | (simp only [Tr.get_put, Nat.reduceEqDiff, reduceCtorEq, if_true, if_false]; rfl) | simp only [Tr.get_put, Nat.reduceEqDiff, reduceCtorEq, if_true, if_false], (by first | (simp only [Tr.get_put, Nat.reduceEqDiff, reduceCtorEq, if_true, if_false]; rfl) | simp only [Tr.get_put, Nat.reduceEqDiff, reduceCtorEq, if_true, if_false]), (by first | (simp only [Tr.get_put, Nat.reduceEqDiff, reduceCtorEq, if_true, if_false]; rfl) | simp only [Tr.get_put, Nat.reduceEqDiff, reduceCtorEq, if_true, if_false]), (by first | (simp only [sA, Nat.reduceEqDiff, reduceCtorEq, if_true, if_false]; rfl) | simp only []), gp3, gq3, gr, by rw [repL_length]; rfl, FLs.nil, hx23⟩
end Go.Proofs.YtlllbkjiadcloaaDoor.hb
end

-- U5
section
/- Terms with their variables numbered anew: the program's Plain. -/
namespace Go.Proofs.YtlllbkjiadcloaaDoor.hb
open Go Go.RowKit Go.Hb
variable {ok : Ok}
set_option maxRecDepth 10000
attribute [local irreducible] LX LG EL STG SOP SGO SGD SAL SRD SEF SEG SLK SCK ES
-- @veq
def varT (i : Int) : Tm := .mk 1 ByteArray.empty ByteArray.empty 0 i []
/-- a number's place in a list, 0 for none -/
def plcZ (L : List Int) (n : Int) : Int := ((L.idxOf? n).getD 0 : Nat)
theorem var_rep {H : Heap} {i : Int} (h : i64 i) : RepT H (varT i) [.int .i64 1, .string ByteArray.empty, .string ByteArray.empty, .int .u64 0, .int .i64 i, .slice none 0 0] :=
  .mk 1 ByteArray.empty ByteArray.empty 0 i [] none 0 (fun _ => []) (by simp [i64]) (by simp [maxLen]) (by simp [maxLen]) (by simp [u64]) h (Nat.zero_le _) (Nat.le_refl _) (Nat.zero_le _) (fun _ => ⟨rfl, rfl⟩) (fun i ad hi => by simp at hi) (fun i t h => by simp at h)
theorem var_fine {i : Int} (h : 0 ≤ i) : Fine (varT i) := by
  unfold Fine
  rw [allE_eq]
  have hn : nodeS (varT i) = 0 := by
    have hv : ¬ i < 0 := by omega
    have hb : blankB (varT i) = true := by
      have he : isE ByteArray.empty = true := by unfold isE; rw [show ByteArray.empty.toList = [] from toList_empty]; rfl
      simp [blankB, varT, Tm.kind, Tm.name, Tm.num, Tm.bits, Tm.var, Tm.args, he]
    have hu : utfS ByteArray.empty = true := by decide +kernel
    unfold nodeS nodeE
    rw [hb]
    simp [varT, Tm.kind, Tm.name, Tm.num, Tm.bits, Tm.var, Tm.args, hv, hu]
  rw [if_pos hn]
  simp [varT, Tm.args, allL]
theorem plc_bound (L : List Int) (n : Int) : 0 ≤ plcZ L n ∧ plcZ L n ≤ L.length := by
  unfold plcZ
  cases h : L.idxOf? n with
  | none => simp
  | some i =>
    have : i < L.length := by
      rw [List.idxOf?, List.findIdx?_eq_some_iff_getElem] at h
      exact h.1
    simp; omega
theorem idx_snoc {L : List Int} {n m : Int} (h : n ∉ L) : (L ++ [n]).idxOf? m = if m = n then some L.length else L.idxOf? m := by
  unfold List.idxOf?
  rw [List.findIdx?_append]
  by_cases hm : m = n
  · subst hm
    have : L.findIdx? (fun x => x == m) = none := by
      rw [List.findIdx?_eq_none_iff]
      intro x hx; simp; intro e; exact h (e ▸ hx)
    rw [if_pos rfl, this]; simp [List.findIdx?_cons]
  · rw [if_neg hm]
    have : (n == m) = false := by simp; omega
    simp [List.findIdx?_cons, this]
theorem uniq_nodup (l : List Int) : (uniq l).Nodup := by
  have h : ∀ (l L : List Int), L.Nodup → (l.foldl addU L).Nodup := by
    intro l
    induction l with
    | nil => intro L h; exact h
    | cons n l ih =>
      intro L h
      refine ih _ ?_
      unfold addU
      split
      · exact h
      · rename_i hn
        rw [List.nodup_append]
        exact ⟨h, by simp, fun a ha b hb => by simp at hb; subst hb; exact fun e => hn (e ▸ ha)⟩
  exact h l [] List.nodup_nil

/-- the renaming call's state -/
def PlJ (L : List Int) (pm r : Nat) (H : Heap) : Prop := H.wf ∧ H.get pm = some (.row [.map (some r)] 90) ∧ ∃ M, MapR H r M ∧ ∀ m, mGet M m = (L.idxOf? m).map fun i : Nat => Value.int .i64 (i : Int)

-- term.Plain$1
theorem plainBy {L : List Int} {pm r : Nat} (hL : L.length ≤ most) : ByAll 68 #[.pointer (some ⟨pm, 0, none⟩)] (fun n => varT (plcZ L n)) (PlJ L pm r) := by
  have hms : most ≤ 9223372036854775807 := by simp [most]
  refine ⟨?_, ?_, fun n _ => var_fine (plc_bound L n).1⟩
  · rintro n H hn ⟨hw, gm, M, hm, hk⟩ -
    have hb := plc_bound L n
    have lm : H.load ⟨pm, 0, none⟩ 1 = some [.map (some r)] := by unfold Heap.load Heap.cells; simp only [gm]; rfl
    have lpm := hw _ _ gm
    have ne : (pm = H.next) = False := by simp; omega
    have el : dLk Tryd.prog 90 (.map (some r)) (.int .i64 n) false (H.new (some (.row zero6 26))) = some (.val (.int .i64 (plcZ L n)) (H.new (some (.row zero6 26)))) := by
      have hm' : MapR (H.new (some (.row zero6 26))) r M := hm.heap (by rw [get_new, if_neg (by have := hm.lt hw; omega)])
      have hkn := hk n
      unfold plcZ
      cases h : L.idxOf? n with
      | none => rw [h] at hkn; exact dLk_none mapI hm' hkn
      | some i => rw [h] at hkn; exact dLk_some mapI hm' hkn
    refine EvF.enter rfl Tryd.func68 (by decide) rfl ?_
    repeat' (first | refine EvC.seq ?_ | refine EvC.scope ?_ | refine EvC.block ?_ | (refine EvC.skip ?_) | (refine EvC.exit ?_) | (refine EvC.ret ?_; try simp only [thenC_ret, inBlock_ret]) | (refine EvC.reg ?_; simp (config := { maxSteps := 2000000 }) (disch := first | omega | rfl) only [sA, initTm, dAlloc, Nat.reduceEqDiff, Nat.reduceAdd, Value.cells, one, reduceCtorEq, if_true, if_false, cutC, Nat.reduceLeDiff, layC, zr26, ld90, bd26, st26, lm, ne, dop_lookup, el]))
    have hx : HX H (H.new (some (.row zero6 26))) := (HX.refl hw).new _
    refine leave_cell_two rfl (by first | (simp only [sA, Nat.reduceEqDiff, reduceCtorEq, if_true, if_false]; rfl) | simp only []) (by first | (simp only [sA, Nat.reduceAdd, if_true, cutC, ld26]; rfl) | simp only [sA, Nat.reduceAdd, if_true, cutC, ld26]) (by first | (simp only [Tr.get_put, Nat.reduceEqDiff, reduceCtorEq, if_true, if_false]; rfl) | simp only [Tr.get_put, Nat.reduceEqDiff, reduceCtorEq, if_true, if_false]) ⟨⟨_, rfl, var_rep ⟨by omega, by omega⟩⟩, hx.put (Nat.le_refl _) (Nat.lt_succ_self _) _⟩
  · rintro H H' ⟨hw, gm, M, hm, hk⟩ hx
    exact ⟨hx.wf, hx.get hw gm, M, hm.heap (hx.keep _ (hm.lt hw)), hk⟩
end Go.Proofs.YtlllbkjiadcloaaDoor.hb
end

-- U9
section
/- Terms with others in the places of variables: the reference's. -/
namespace Go.Hb
open Go Go.RowKit
/-- binds under a slice, as they are read: a number and a term each -/
structure RepBs (H : Heap) (B : List (Int × Tm)) (a : Option Addr) (c : Nat) : Prop where
  len : B.length ≤ c
  cap : c ≤ maxLen
  el : ∀ (i : Nat) (h : i < B.length), ∃ b o a' c', a = some ⟨b, o, none⟩ ∧ H.load ⟨b, o + i * 7, none⟩ 1 = some [.int .i64 B[i].1] ∧ H.load ⟨b, o + i * 7 + 1, none⟩ 6 = some (six B[i].2 a' c') ∧ RepT H B[i].2 (six B[i].2 a' c')
theorem RepBs.max {H : Heap} {B : List (Int × Tm)} {a : Option Addr} {c : Nat} (h : RepBs H B a c) : B.length ≤ 9223372036854775807 := Nat.le_trans h.len h.cap
theorem RepBs.mono {H H' : Heap} {B : List (Int × Tm)} {a : Option Addr} {c : Nat} (h : RepBs H B a c) (hx : HX H H') (hw : H.wf) : RepBs H' B a c :=
  ⟨h.len, h.cap, fun i hi => let ⟨b, o, a', c', e, l1, l2, r⟩ := h.el i hi; ⟨b, o, a', c', e, hx.load hw l1, hx.load hw l2, r.mono hx hw⟩⟩
end Go.Hb
namespace Go.Proofs.YtlllbkjiadcloaaDoor.hb
open Go Go.RowKit Go.Hb
variable {ok : Ok}
set_option maxRecDepth 10000
attribute [local irreducible] LX LG EL STG SOP SGO SGD SAL SRD SEF SEG SLK SCK ES
-- @veq
-- hornbeamref02.V
theorem V_ev {i : Int} {H : Heap} (hw : H.wf) : EvF Tryd.prog okT 46 [.int .i64 i] H fun v H' => v = .agg ⟨[.int .i64 1, .string ByteArray.empty, .string ByteArray.empty, .int .u64 0, .int .i64 i, .slice none 0 0]⟩ ∧ HX H H' := by
  refine EvF.enter rfl Tryd.func46 (by decide) rfl ?_
  repeat' (first | refine EvC.seq ?_ | refine EvC.scope ?_ | refine EvC.block ?_ | (refine EvC.skip ?_) | (refine EvC.exit ?_) | (refine EvC.ret ?_; try simp only [thenC_ret, inBlock_ret]) | (refine EvC.reg ?_; simp (config := { maxSteps := 2000000 }) (disch := first | omega | rfl) only [sA, initTm, dAlloc, Nat.reduceEqDiff, Nat.reduceAdd, Value.cells, one, reduceCtorEq, if_true, if_false, Nat.reduceLeDiff, layC, zr26, bd26, st26]))
  exact leave_cell rfl (by first | (simp only [sA, Nat.reduceEqDiff, reduceCtorEq, if_true, if_false]; rfl) | simp only []) (by first | (simp only [sA, Nat.reduceAdd, if_true, cutC, ld26]; rfl) | simp only [sA, Nat.reduceAdd, if_true, cutC, ld26]) ⟨rfl, ((HX.refl hw).new _).put (Nat.le_refl _) (Nat.lt_succ_self _) _⟩

-- hornbeamref02.Found
set_option maxHeartbeats 2000000 in
theorem found_ev {B : List (Int × Tm)} {n : Int} {a : Option Addr} {c : Nat} {H : Heap} (h : RepBs H B a c) (hw : H.wf) :
    EvF Tryd.prog okT 72 [.slice a B.length c, .int .i64 n] H fun v H' => HX H H' ∧ match B.find? (fun p => p.1 == n) with
      | some p => ∃ cs, v = .tuple #[.agg ⟨cs⟩, .bool true] ∧ RepT H' p.2 cs
      | none => v = .tuple #[.agg ⟨zero6⟩, .bool false] := by
  have hm := h.max
  refine EvF.enter rfl Tryd.func72 (by decide) rfl ?_
  (repeat refine EvC.seq ?_); refine EvC.reg ?_; simp (config := { maxSteps := 2000000 }) (disch := first | omega | rfl) only [sA, initTm, dAlloc, zr26]
  obtain ⟨H2, e2, hx2, gq, hn2, hw2⟩ := new1 hw (.row zero6 26)
  simp only [e2]
  repeat' (first | refine EvC.seq ?_ | refine EvC.scope ?_ | refine EvC.block ?_ | (refine EvC.skip ?_) | (refine EvC.exit ?_) | (refine EvC.ret ?_; try simp only [thenC_ret, inBlock_ret]) | (refine EvC.reg ?_; simp (config := { maxSteps := 2000000 }) (disch := first | omega | rfl) only [sA]))
  refine EvC.loop (fun k st => ∃ tm i, st = ⟨tm, [], H2⟩ ∧ k = B.length - i ∧ i ≤ B.length ∧ (∀ p ∈ B.take i, p.1 ≠ n) ∧ tm.get 0 = some (.slice a B.length c) ∧ tm.get 1 = some (.int .i64 n) ∧ tm.get 4 = some (.pointer (some ⟨H.next, 0, none⟩)) ∧ tm.get 6 = some (.int .i64 (i : Nat))) ?_ B.length _ ?_
  · rintro k st ⟨tm, i, rfl, rfl, hi, hn, t0, t1, t4, t6⟩
    by_cases hlt : i < B.length
    · obtain ⟨b, o, a', c', rfl, l1, l2, r⟩ := h.el i hlt
      have l1 := hx2.load hw l1
      have l2 := hx2.load hw l2
      by_cases he : B[i].1 = n
      · repeat' (first | refine EvC.seq ?_ | refine EvC.scope ?_ | refine EvC.block ?_ | (refine EvC.skip ?_; try simp only [thenC_normal]) | (refine EvC.exit ?_) | (refine EvC.ret ?_; try simp only [thenC_ret, inBlock_ret]) | (refine EvC.reg ?_; simp (config := { maxSteps := 2000000 }) (disch := first | omega | rfl) only [sA, Nat.reduceEqDiff, Nat.reduceAdd, one, reduceCtorEq, if_true, if_false, ln57, ia57, fa59_0, ld3, fa59_1, ld26, st26, t0, t1, t4, t6, decl hlt, l1, l2, ieq_t he, gq]) | (refine EvC.condT ?_ ?_; simp (config := { maxSteps := 2000000 }) (disch := first | omega | rfl) only [sA, Nat.reduceEqDiff, if_true, if_false]; refine EvC_go ?_))
        have hx3 := hx2.pt (Nat.le_refl _) gq (some (.row (six B[i].2 a' c') 26))
        have hfind : B.find? (fun p => p.1 == n) = some B[i] := by
          rw [List.find?_eq_some_iff_getElem]
          refine ⟨by simp [he], i, hlt, rfl, fun j hj => ?_⟩
          have := hn B[j] (by rw [List.mem_take_iff_getElem]; exact ⟨j, by omega, rfl⟩)
          simp [this]
        refine leave_cell_two rfl (by first | (simp only [sA, Nat.reduceEqDiff, if_false, t4]; rfl) | simp only []) (by first | (simp only [sA, Nat.reduceAdd, if_true, cutC, ld26]; rfl) | simp only []) (by first | (simp only [sA, Nat.reduceEqDiff, if_true, if_false]; rfl) | simp only []) ⟨hx3, ?_⟩
        rw [hfind]
        exact ⟨_, rfl, r.mono hx3 hw⟩
      · repeat' (first | refine EvC.seq ?_ | refine EvC.scope ?_ | refine EvC.block ?_ | (refine EvC.skip ?_; try simp only [sA]) | (refine EvC.exit ?_) | (refine EvC.ret ?_; try simp only [thenC_ret, inBlock_ret]) | (refine EvC.reg ?_; simp (config := { maxSteps := 2000000 }) (disch := first | omega | rfl) only [sA, Nat.reduceEqDiff, reduceCtorEq, if_true, if_false, ln57, ia57, fa59_0, ld3, t0, t1, t6, decl hlt, l1, ieq_f he, wrap_i64]) | (refine EvC.condT ?_ ?_; simp (config := { maxSteps := 2000000 }) (disch := first | omega | rfl) only [sA, Nat.reduceEqDiff, if_true, if_false]; refine EvC_go ?_) | (refine EvC.condF ?_ ?_; simp (config := { maxSteps := 2000000 }) (disch := first | omega | rfl) only [sA, Nat.reduceEqDiff, if_true, if_false]; refine EvC_go ?_))
        refine ⟨B.length - (i + 1), by omega, _, i + 1, rfl, rfl, by omega, fun p hp => ?_, (by first | (simp only [Tr.get_put, reduceCtorEq, if_false, t0]; rfl) | simp only [Tr.get_put, reduceCtorEq, if_false, t0]), (by first | (simp only [Tr.get_put, Nat.reduceEqDiff, if_false, t1]; rfl) | simp only [Tr.get_put, Nat.reduceEqDiff, if_false, t1]), (by first | (simp only [Tr.get_put, Nat.reduceEqDiff, if_false, t4]; rfl) | simp only [Tr.get_put, Nat.reduceEqDiff, if_false, t4]), (by first | (simp only [sA, Nat.reduceEqDiff, if_true, if_false]; rfl) | simp only [])⟩
        rw [← List.take_append_getElem hlt, List.mem_append] at hp
        rcases hp with hp | hp
        · exact hn p hp
        · simp at hp; rw [hp]; exact he
    · repeat' (first | refine EvC.seq ?_ | refine EvC.scope ?_ | refine EvC.block ?_ | (refine EvC.skip ?_) | (refine EvC.exit ?_; try simp only [sA, if_true]) | (refine EvC.ret ?_; try simp only [thenC_ret, inBlock_ret]) | (refine EvC.reg ?_; simp (config := { maxSteps := 2000000 }) (disch := first | omega | rfl) only [sA, Nat.reduceEqDiff, Nat.reduceAdd, Value.cells, one, reduceCtorEq, if_true, if_false, layC, ln57, st26, bd26, t0, t4, t6, decn hlt, gq]) | (refine EvC.condT ?_ ?_; simp (config := { maxSteps := 2000000 }) (disch := first | omega | rfl) only [sA, Nat.reduceEqDiff, if_true, if_false]; refine EvC_go ?_) | (refine EvC.condF ?_ ?_; simp (config := { maxSteps := 2000000 }) (disch := first | omega | rfl) only [sA, Nat.reduceEqDiff, if_true, if_false]; refine EvC_go ?_))
      rw [List.take_of_length_le (by omega)] at hn
      have hfind : B.find? (fun p => p.1 == n) = none := by rw [List.find?_eq_none]; intro p hp; simp [hn p hp]
      refine leave_cell_two rfl (by first | (simp only [sA, Nat.reduceEqDiff, if_false, t4]; rfl) | simp only []) (by first | (simp only [sA, Nat.reduceAdd, if_true, cutC, ld26]; rfl) | simp only []) (by first | (simp only [sA, Nat.reduceEqDiff, if_true, if_false]; rfl) | simp only []) ⟨hx2.pt (Nat.le_refl _) gq _, ?_⟩
      rw [hfind]
  · exact ⟨_, 0, rfl, rfl, by omega, fun p hp => by simp at hp, (by first | (simp only [Tr.get_put, reduceCtorEq, if_true, if_false]; rfl) | simp only [Tr.get_put, reduceCtorEq, if_true, if_false]), (by first | (simp only [Tr.get_put, Nat.reduceEqDiff, reduceCtorEq, if_true, if_false]; rfl) | simp only [Tr.get_put, Nat.reduceEqDiff, reduceCtorEq, if_true, if_false]), (by first | (simp only [Tr.get_put, Nat.reduceEqDiff, reduceCtorEq, if_true, if_false]; rfl) | simp only [Tr.get_put, Nat.reduceEqDiff, reduceCtorEq, if_true, if_false]), (by first | (simp only [sA, Nat.reduceEqDiff, reduceCtorEq, if_true, if_false]; rfl) | simp only [])⟩

-- hornbeamref02.Inst
set_option maxHeartbeats 4000000 in
theorem inst_ev {B : List (Int × Tm)} {σ : Int → Tm} {ab : Option Addr} {cb : Nat} (hσ : ∀ n, Few 1000000 (σ n)) {m : Nat} : ∀ {t : Tm} {cs : List Value} {H : Heap}, SizeOf.sizeOf t < m → RepT H t cs → Few 1000000 t → RepBs H B ab cb → (∀ n ∈ occ t, ∃ p, B.find? (fun p => p.1 == n) = some p ∧ p.2 = σ n) → H.wf →
    EvF Tryd.prog okT 65 [.agg ⟨cs⟩, .slice ab B.length cb] H fun v H' => ∃ cs', v = .agg ⟨cs'⟩ ∧ RepF H' 26 (Rg H.next H'.next) (sub σ t) cs' ∧ HX H H' := by
  induction m with
  | zero => intro t cs H h; omega
  | succ m ih =>
  intro t cs H hsz r hf hB hocc hw
  have hbd := r.bd
  have hfew := hf.len
  obtain ⟨a, c, cells, rfl, -, -, -, -, -, rl⟩ := r.six
  refine EvF.enter rfl Tryd.func65 (by decide) rfl ?_
  (repeat refine EvC.seq ?_); refine EvC.reg ?_; simp (config := { maxSteps := 2000000 }) (disch := first | omega | rfl) only [sA, initTm, dBox, dAlloc, Value.cells, one, reduceCtorEq, if_true, if_false, zr26]
  obtain ⟨H2, e2, hx2, gp, gq, hn2, hw2⟩ := new2 hw (.row (six t a c) 26) (.row zero6 26)
  simp only [e2]
  have q1 := row6 gp
  clear e2
  (repeat refine EvC.seq ?_); refine EvC.reg ?_; simp (config := { maxSteps := 2000000 }) (disch := first | omega | rfl) only [sA, Nat.reduceEqDiff, reduceCtorEq, if_true, if_false, fa26_0, ld3, q1]
  by_cases k1 : t.kind = 1
  · have hv : t.var ∈ occ t := by rw [occ_eq, if_pos k1]; simp
    obtain ⟨p, hp1, hp2⟩ := hocc _ hv
    repeat' (first | refine EvC.seq ?_ | refine EvC.scope ?_ | refine EvC.block ?_ | (refine EvC.skip ?_) | (refine EvC.exit ?_) | (refine EvC.ret ?_; try simp only [thenC_ret, inBlock_ret]) | (refine EvC.reg ?_; simp (config := { maxSteps := 2000000 }) (disch := first | omega | rfl) only [sA, Nat.reduceEqDiff, reduceCtorEq, if_true, if_false, ld3, fa26_4, cl72, q1, ieq_t k1]) | (refine EvC.condT ?_ ?_; simp (config := { maxSteps := 2000000 }) (disch := first | omega | rfl) only [sA, Nat.reduceEqDiff, reduceCtorEq, if_true, if_false, ieq_t k1]; refine EvC_go ?_))
    refine (found_ev (hB.mono hx2 hw) hw2).mono ?_
    rintro v H3 ⟨hx3, hv3⟩
    rw [hp1] at hv3
    obtain ⟨cs3, rfl, r3⟩ := hv3
    rw [hp2] at r3
    obtain ⟨a3, c3, cells3, rfl, -⟩ := r3.six
    have gq3 := hx3.get hw2 gq
    repeat' (first | refine EvC.seq ?_ | refine EvC.scope ?_ | refine EvC.block ?_ | (refine EvC.skip ?_) | (refine EvC.exit ?_) | (refine EvC.ret ?_; try simp only [thenC_ret, inBlock_ret]) | (refine EvC.reg ?_; simp (config := { maxSteps := 2000000 }) (disch := first | omega | rfl) only [sA, Nat.reduceEqDiff, Nat.reduceAdd, reduceCtorEq, if_true, if_false, cutC, ld26, cl34]) | (refine LX_go ?_; simp (config := { maxSteps := 2000000 }) (disch := first | omega | rfl) only [sA, dAlloc, Nat.reduceEqDiff, Nat.reduceAdd, one, reduceCtorEq, if_true, if_false, zr26, st26]) | (refine EvC.condT ?_ ?_; simp (config := { maxSteps := 2000000 }) (disch := first | omega | rfl) only [sA, Nat.reduceEqDiff, reduceCtorEq, if_true, if_false]; refine EvC_go ?_))
    obtain ⟨H4, e4, hx4, g4, hn4, hw4⟩ := newput hx3.wf (.row zero6 26) (.row (six (σ t.var) a3 c3) 26)
    simp only [e4]
    have hx34 := hx3.trans hx4
    refine (ownR_ev (Nat.lt_succ_self _) (r3.mono hx4 hx3.wf) (hσ _) hw4).mono ?_
    rintro v H5 ⟨c5, rfl, ⟨a5, k5, rfl, hb5, hf5⟩, hx5⟩
    have gq5 := hx5.get hw4 (hx4.get hx3.wf gq3)
    have hx25 := hx34.trans hx5
    have n24 := hx34.next
    have n25 := hx25.next
    repeat' (first | refine EvC.seq ?_ | refine EvC.scope ?_ | refine EvC.block ?_ | (refine EvC.skip ?_) | (refine EvC.exit ?_) | (refine EvC.ret ?_; try simp only [thenC_ret, inBlock_ret]) | (refine LX_go ?_; simp (config := { maxSteps := 2000000 }) (disch := first | omega | rfl) only [sA, Nat.reduceAdd, one, if_true, st26, gq5]))
    refine leave_cell rfl (by first | (simp only [sA, Nat.reduceEqDiff, reduceCtorEq, if_true, if_false]; rfl) | simp only []) (by first | (simp only [sA, Nat.reduceAdd, if_true, cutC, ld26]; rfl) | simp only []) ⟨_, rfl, ⟨a5, k5, by rw [sub_var k1], by rw [sub_var k1]; exact hb5, ?_⟩, (hx2.trans hx25).pt (by omega) gq5 _⟩
    rw [sub_var k1]
    refine (hf5.heap (fun n hn _ => ?_) hx5.wf).sub fun n hn => ⟨by have := hn.1; omega, hn.2⟩
    have := hn.1
    rw [get_put, if_neg (by omega)]
  have hsub := sub_mk (σ := σ) k1
  have hsa : (sub σ t).args = t.args.map (sub σ) := by rw [hsub]; rfl
  have hbd' : Bd (sub σ t) := by rw [hsub]; exact ⟨hbd.kind, hbd.name, hbd.num, hbd.bits, hbd.var⟩
  have hsix : ∀ a c, six (sub σ t) a c = [.int .i64 t.kind, .string t.name, .string t.num, .int .u64 t.bits, .int .i64 t.var, .slice a t.args.length c] := fun a c => by rw [hsub]; simp [six, Tm.kind, Tm.name, Tm.num, Tm.bits, Tm.var, Tm.args]
  (repeat refine EvC.seq ?_); refine EvC.condF (by simp (config := { maxSteps := 2000000 }) (disch := first | omega | rfl) only [sA, Nat.reduceEqDiff, reduceCtorEq, if_true, if_false, ieq_f k1]) ?_; (try refine EvC.skip ?_); (try simp only [thenC_normal, inBlock_normal])
  (repeat refine EvC.seq ?_); refine EvC.reg ?_; simp (config := { maxSteps := 2000000 }) (disch := first | omega | rfl) only [sA, dAlloc, Nat.reduceEqDiff, Nat.reduceAdd, one, reduceCtorEq, if_true, if_false, zr26, st26, ld26, q1]
  obtain ⟨H3, e3, hx3, gr, hn3, hw3⟩ := newput hw2 (.row zero6 26) (.row (six t a c) 26)
  simp only [e3]
  clear e3
  rw [hn2] at gr hn3
  simp only [hn2]
  (repeat refine EvC.seq ?_); refine EvC.reg ?_; simp (config := { maxSteps := 2000000 }) (disch := first | omega | rfl) only [sA, Nat.reduceEqDiff, Nat.reduceAdd, one, reduceCtorEq, if_true, if_false, fa26_5, st24, gr]
  have hx23 := hx2.trans hx3
  have gp3 := hx3.get hw2 gp
  have gq3 := hx3.get hw2 gq
  have hmax := rl.max
  (repeat refine EvC.seq ?_); refine EvC.reg ?_; simp (config := { maxSteps := 2000000 }) (disch := first | omega | rfl) only [sA]
  refine EvC.meet (fun st => ∃ tm H' ar cr, st = ⟨tm, [], H'⟩ ∧ tm.get 4 = some (.pointer (some ⟨H.next + 1, 0, none⟩)) ∧ tm.get 7 = some (.pointer (some ⟨H.next + 2, 0, none⟩)) ∧
      H'.get (H.next + 1) = some (.row zero6 26) ∧ H'.get (H.next + 2) = some (.row (six (sub σ t) ar cr) 26) ∧ FL H' 26 (Rg (H.next + 3) H'.next) (sub σ t).args ar cr ∧ HX H H') ?_ ?_
  · refine EvC.block (EvC.loop (fun k st => ∃ tm H' i ar cr, st = ⟨tm, [], H'⟩ ∧ k = t.args.length - i ∧ i ≤ t.args.length ∧ tm.get 1 = some (.slice ab B.length cb) ∧
      tm.get 2 = some (.pointer (some ⟨H.next, 0, none⟩)) ∧ tm.get 4 = some (.pointer (some ⟨H.next + 1, 0, none⟩)) ∧ tm.get 7 = some (.pointer (some ⟨H.next + 2, 0, none⟩)) ∧ tm.get 8 = some (.int .i64 (i : Nat)) ∧
      H'.get H.next = some (.row (six t a c) 26) ∧ H'.get (H.next + 1) = some (.row zero6 26) ∧
      H'.get (H.next + 2) = some (.row [.int .i64 t.kind, .string t.name, .string t.num, .int .u64 t.bits, .int .i64 t.var, .slice ar i cr] 26) ∧
      FL H' 26 (Rg (H.next + 3) H'.next) ((t.args.take i).map (sub σ)) ar cr ∧ HX H H') ?_ t.args.length _ ?_)
    · rintro k st ⟨tm, H', i, ar, cr, rfl, rfl, hi, t0, t1, t2, t3, t4, gp', gq', gr', hfl, hx'⟩
      have q1 := row6 gp'
      by_cases hlt : i < t.args.length
      · obtain ⟨b, o, a1, c1, rfl, hld, hr1⟩ := rl.el hlt
        have hld1 := hx'.load hw hld
        repeat' (first | refine EvC.seq ?_ | refine EvC.scope ?_ | refine EvC.block ?_ | (refine EvC.skip ?_; try simp only [thenC_normal]) | (refine EvC.exit ?_) | (refine EvC.ret ?_; try simp only [thenC_ret, inBlock_ret]) | (refine EvC.reg ?_; simp (config := { maxSteps := 2000000 }) (disch := first | omega | rfl) only [sA, Nat.reduceEqDiff, if_true, if_false, fa26_5, ld24, ln24, t1, t4, q1, decl hlt]) | (refine EvC.drw [([(2, 0), (3, 0), (4, 0), (5, 0), (6, 0), (7, 0)], some 8), ([(0, 0), (1, 0), (9, 1)], some 10), ([(11, 2)], some 12), ([], none)] ?_ ?_; kernel_rfl; simp (config := { maxSteps := 2000000 }) (disch := first | omega | rfl) only [sD, sA, Nat.reduceEqDiff, Nat.reduceAdd, reduceCtorEq, if_true, if_false, ld26, fa26_5, ld24, ia24, cl65, t0, t1, t4, q1, hld1, isAlloc, isRead, reduceCtorEq]) | (refine EvC.condT ?_ ?_; simp (config := { maxSteps := 2000000 }) (disch := first | omega | rfl) only [sA, Nat.reduceEqDiff, if_true, if_false]; refine EvC_go ?_))
        have hb := hx'.bump 13
        have hs := args_size (List.getElem?_eq_getElem hlt)
        refine (ih (t := t.args[i]) (by omega) (hr1.mono hb hw) (hf.args _ (List.getElem_mem _)) (hB.mono hb hw) (fun n hn => hocc n (by rw [occ_eq]; exact List.mem_append.2 (.inr ((occL_pre t.args (i + 1)).subset (by rw [occL_take hlt]; exact List.mem_append.2 (.inr hn)))))) hb.wf).mono ?_
        rintro v H5 ⟨cs', rfl, ⟨a2, c2, rfl, hb2, hf2⟩, hx5⟩
        have hb5 := ((HX.refl hx'.wf).bump 13).trans hx5
        have gp5 := hb5.get hx'.wf gp'
        have gq5 := hb5.get hx'.wf gq'
        have gr5 := hb5.get hx'.wf gr'
        have q3 := row6 gr5
        have q3' := row6 gr'
        have ean : apOk Tryd.prog 24 26 6 := ap24
        have hn5 := hx5.next
        have hn5' : H'.next + 13 ≤ H5.next := hn5
        have hltr := hx'.wf _ _ gr'
        have hx6 : HX H' (H5.put (H'.next + 9) (some (.row (six (sub σ t.args[i]) a2 c2) 26))) := hb5.put (i := H'.next + 9) (Nat.le_add_right _ _) (by omega) _
        obtain ⟨H6, e6⟩ : ∃ H6, H5.put (H'.next + 9) (some (.row (six (sub σ t.args[i]) a2 c2) 26)) = H6 := ⟨_, rfl⟩
        have g6 : H6.get (H'.next + 9) = some (.row (six (sub σ t.args[i]) a2 c2) 26) := by rw [← e6, get_put, if_pos rfl]
        have hn6 : H6.next = H5.next := by rw [← e6, next_put]
        have hf6 : FL H6 26 (Rg (H'.next + 13) H5.next) (sub σ t.args[i]).args a2 c2 := hf2.heap (fun n hn _ => by have : H'.next + 13 ≤ n := hn.1; rw [← e6, get_put, if_neg (by omega)]) hx5.wf
        rw [e6] at hx6
        have etl : ((t.args.take i).map (sub σ)).length = i := by rw [List.length_map, List.length_take]; omega
        obtain ⟨H7, e7, hf7, hk7, hn7⟩ := FL.push (S2 := Rg (H.next + 3) (H6.next + 1)) (c1 := 1) ean (hfl.keep hx6 hx'.wf) hx6.wf (row6 g6).2.2.2.2.2.2 hf6 hb2 (fun n hn hs => by have : H'.next + 13 ≤ n := hn.1; have := hs.2; omega) (fun n hn => by have := hn.2; omega) (fun n hn => by have := hn.2; omega)
          (by rw [etl]; unfold most; omega) (fun n hn => by
            rcases hn with hn | hn | hn
            · exact ⟨hn.1, by have := hn.2; omega⟩
            · exact ⟨by have : H'.next + 13 ≤ n := hn.1; omega, by have := hn.2; omega⟩
            · exact ⟨by omega, by omega⟩)
        rw [etl] at e7 hf7
        have hx7 : HX H H7 := (hx'.trans hx6).then hk7 fun n hn hs => by have := hs.1; omega
        have gp7 := hk7.get hx6.wf (hx6.get hx'.wf gp') (fun hs => by have := hs.1; omega)
        have gq7 := hk7.get hx6.wf (hx6.get hx'.wf gq') (fun hs => by have := hs.1; omega)
        have gr7 := hk7.get hx6.wf (hx6.get hx'.wf gr') (fun hs => by have := hs.1; omega)
        have q3'' := row6 gr7
        repeat' (first | refine EvC.seq ?_ | refine EvC.scope ?_ | refine EvC.block ?_ | (refine EvC.skip ?_) | (refine EvC.exit ?_) | (refine EvC.ret ?_; try simp only [thenC_ret, inBlock_ret]) | (refine EvC.reg ?_; simp (config := { maxSteps := 2000000 }) (disch := first | omega | rfl) only [sA, Nat.reduceEqDiff, if_true, if_false, t4, wrap_i64]) | (refine SCK_go ?_; simp (config := { maxSteps := 2000000 }) (disch := first | omega | rfl) only [sV, sD, sA, Nat.reduceEqDiff, Nat.reduceAdd, Value.cells, one, reduceCtorEq, if_true, if_false, layC, fa26_5, st24, ld24, bs24_1, t3, q3, q3', e6, e7, gr7, isAlloc, isRead, dalloc, reduceCtorEq]))
        have et : (t.args.take (i + 1)).map (sub σ) = (t.args.take i).map (sub σ) ++ [sub σ t.args[i]] := by rw [← List.take_append_getElem hlt, List.map_append]; rfl
        exact ⟨t.args.length - (i + 1), by omega, _, _, i + 1, some ⟨H6.next, 0, none⟩, i + 1, rfl, rfl, by omega, (by first | (simp only [Tr.get_put, Nat.reduceEqDiff, if_false, t0]; rfl) | simp only [Tr.get_put, Nat.reduceEqDiff, if_false, t0]), (by first | (simp only [Tr.get_put, Nat.reduceEqDiff, if_false, t1]; rfl) | simp only [Tr.get_put, Nat.reduceEqDiff, if_false, t1]), (by first | (simp only [Tr.get_put, Nat.reduceEqDiff, if_false, t2]; rfl) | simp only [Tr.get_put, Nat.reduceEqDiff, if_false, t2]), (by first | (simp only [Tr.get_put, Nat.reduceEqDiff, if_false, t3]; rfl) | simp only [Tr.get_put, Nat.reduceEqDiff, if_false, t3]), (by first | (simp only [sA, Nat.reduceEqDiff, if_true, if_false]; rfl) | simp only []), by rw [get_put, if_neg (by omega)]; exact gp7, by rw [get_put, if_neg (by omega)]; exact gq7, by rw [get_put, if_pos rfl],
          by
            rw [et]
            refine (hf7.heap (H' := H7.put (H.next + 2) _) (fun n hn _ => ?_) hx7.wf).sub (fun n hn => ⟨hn.1, by rw [next_put, hn7]; exact hn.2⟩)
            have := hn.1
            rw [get_put, if_neg (by omega)], hx7.pt (by omega) gr7 _⟩
      · repeat' (first | refine EvC.seq ?_ | refine EvC.scope ?_ | refine EvC.block ?_ | (refine EvC.skip ?_) | (refine EvC.exit ?_; try simp only [sA, reduceCtorEq, if_true]) | (refine EvC.ret ?_; try simp only [thenC_ret, inBlock_ret]) | (refine EvC.reg ?_; simp (config := { maxSteps := 2000000 }) (disch := first | omega | rfl) only [sA, Nat.reduceEqDiff, if_true, if_false, fa26_5, ld24, ln24, t1, t4, q1, decn hlt]) | (refine EvC.condT ?_ ?_; simp (config := { maxSteps := 2000000 }) (disch := first | omega | rfl) only [sA, Nat.reduceEqDiff, if_true, if_false]; refine EvC_go ?_) | (refine EvC.condF ?_ ?_; simp (config := { maxSteps := 2000000 }) (disch := first | omega | rfl) only [sA, Nat.reduceEqDiff, if_true, if_false]; refine EvC_go ?_))
        have hi' : i = t.args.length := by omega
        subst hi'
        rw [List.take_of_length_le (Nat.le_refl _), ← hsa] at hfl
        exact ⟨_, _, ar, cr, rfl, (by first | (simp only [Tr.get_put, Nat.reduceEqDiff, if_false, t2]; rfl) | simp only [Tr.get_put, Nat.reduceEqDiff, if_false, t2]), (by first | (simp only [Tr.get_put, Nat.reduceEqDiff, if_false, t3]; rfl) | simp only [Tr.get_put, Nat.reduceEqDiff, if_false, t3]), gq', by rw [hsix]; exact gr', hfl, hx'⟩
    · exact ⟨_, _, 0, none, 0, rfl, rfl, by omega, (by first | (simp only [Tr.get_put, Nat.reduceEqDiff, reduceCtorEq, if_true, if_false]; rfl) | simp only [Tr.get_put, Nat.reduceEqDiff, reduceCtorEq, if_true, if_false]), (by first | (simp only [Tr.get_put, Nat.reduceEqDiff, reduceCtorEq, if_true, if_false]; rfl) | simp only [Tr.get_put, Nat.reduceEqDiff, reduceCtorEq, if_true, if_false]), (by first | (simp only [Tr.get_put, Nat.reduceEqDiff, reduceCtorEq, if_true, if_false]; rfl) | simp only [Tr.get_put, Nat.reduceEqDiff, reduceCtorEq, if_true, if_false]), (by first | (simp only [Tr.get_put, Nat.reduceEqDiff, reduceCtorEq, if_true, if_false]; rfl) | simp only [Tr.get_put, Nat.reduceEqDiff, reduceCtorEq, if_true, if_false]), (by first | (simp only [sA, Nat.reduceEqDiff, reduceCtorEq, if_true, if_false]; rfl) | simp only []), by rw [get_put, if_neg (by omega)]; exact gp3, by rw [get_put, if_neg (by omega)]; exact gq3, by rw [get_put, if_pos rfl], .nil _, hx23.pt (by omega) gr _⟩
  · rintro st ⟨tm, H', ar, cr, rfl, t2, t3, gq', gr', hfl, hx'⟩
    have q3 := row6 gr'
    have hlt := hx'.wf _ _ gr'
    repeat' (first | refine EvC.seq ?_ | refine EvC.scope ?_ | refine EvC.block ?_ | (refine EvC.skip ?_) | (refine EvC.exit ?_) | (refine EvC.ret ?_; try simp only [thenC_ret, inBlock_ret]) | (refine EvC.reg ?_; simp (config := { maxSteps := 2000000 }) (disch := first | omega | rfl) only [sA, Nat.reduceEqDiff, Nat.reduceAdd, one, if_true, if_false, st26, ld26, t2, t3, q3, gq']))
    have hx6 := hx'.pt (i := H.next + 1) (by omega) gq' (some (.row (six (sub σ t) ar cr) 26))
    refine leave_cell rfl (by first | (simp only [sA, Nat.reduceEqDiff, if_false, t2]; rfl) | simp only []) (by first | (simp only [sA, Nat.reduceAdd, if_true, cutC, ld26]; rfl) | simp only [sA, Nat.reduceAdd, if_true, cutC, ld26]) ⟨_, rfl, ⟨ar, cr, rfl, hbd', (hfl.heap (fun n hn _ => ?_) hx'.wf).sub fun n hn => ⟨by have := hn.1; omega, hn.2⟩⟩, hx6⟩
    have := hn.1
    rw [get_put, if_neg (by omega)]
end Go.Proofs.YtlllbkjiadcloaaDoor.hb
end

-- U6
section
/- Terms with their variables numbered anew: the program's Plain, whole. -/
namespace Go.Proofs.YtlllbkjiadcloaaDoor.hb
open Go Go.RowKit Go.Hb
variable {ok : Ok}
set_option maxRecDepth 10000
attribute [local irreducible] LX LG EL STG SOP SGO SGD SAL SRD SEF SEG SLK SCK ES
-- @veq
def plainL (l : List Tm) : List Tm := l.map (sub fun n => varT (plcZ (uniq (occL l)) n))
theorem IntL.at {H : Heap} {T : TypeId} {S : Nat → Prop} {L : List Int} {a : Option Addr} {n c : Nat} (h : IntL H T S L (.slice a n c)) {i : Nat} (hi : i < L.length) : ∃ b, a = some ⟨b, 0, none⟩ ∧ n = L.length ∧ H.load ⟨b, i, none⟩ 1 = some [.int .i64 L[i]] ∧ S b := by
  rcases h with ⟨rfl, -⟩ | ⟨b, c', h1, -, -, h2, h3⟩
  · simp at hi
  · cases h1
    refine ⟨b, rfl, rfl, ?_, h3⟩
    unfold Heap.load Heap.cells
    simp only [h2]
    have : (List.drop i (L.map fun n => Value.int .i64 n)).take 1 = [.int .i64 L[i]] := by
      rw [List.drop_eq_getElem_cons (by simpa using hi)]; simp
    rw [this]; rfl

-- term.Plain
set_option maxHeartbeats 8000000 in
theorem plain_ev {l : List Tm} {a : Option Addr} {c : Nat} {cells : Nat → List Value} {H : Heap} (rl : RepL H l a c cells) (hlen : (occL l).length ≤ most) (hl : l.length ≤ most) (hw : H.wf) :
    EvF Tryd.prog okT 31 [.slice a l.length c] H fun v H' => ∃ a' c', v = .tuple #[.slice a' (if chkL l = 0 then plainL l else []).length c', .int .i64 (chkL l)] ∧ FL H' 26 (Rg H.next H'.next) (if chkL l = 0 then plainL l else []) a' c' ∧ HX H H' := by
  have hmx := rl.max
  have hms : most ≤ 9223372036854775807 := by simp [most]
  refine EvF.enter rfl Tryd.func31 (by decide) rfl ?_
  repeat' (first | refine EvC.seq ?_ | refine EvC.scope ?_ | refine EvC.block ?_ | (refine EvC.skip ?_) | (refine EvC.exit ?_) | (refine EvC.ret ?_; try simp only [thenC_ret, inBlock_ret]) | (refine EvC.reg ?_; simp (config := { maxSteps := 2000000 }) (disch := first | omega | rfl) only [sA, initTm, Nat.reduceEqDiff, reduceCtorEq, if_true, if_false, cl52]))
  refine (checks_ev rl hw).mono ?_
  rintro v H1 ⟨rfl, hx1⟩
  have nn1 := hx1.next
  by_cases h0 : chkL l = 0
  rotate_left
  · repeat' (first | refine EvC.seq ?_ | refine EvC.scope ?_ | refine EvC.block ?_ | (refine EvC.skip ?_) | (refine EvC.exit ?_) | (refine EvC.ret ?_; try simp only [thenC_ret, inBlock_ret]) | (refine EvC.reg ?_; simp (config := { maxSteps := 2000000 }) (disch := first | omega | rfl) only [sA, Nat.reduceEqDiff, reduceCtorEq, if_true, if_false, ine_t h0]) | (refine EvC.condT ?_ ?_; simp (config := { maxSteps := 2000000 }) (disch := first | omega | rfl) only [sA, Nat.reduceEqDiff, reduceCtorEq, if_true, if_false]; refine EvC_go ?_))
    exact leave_two rfl (by first | (simp only [sA, Nat.reduceEqDiff, reduceCtorEq, if_true, if_false]; rfl) | simp only []) (by first | (simp only [sA, Nat.reduceEqDiff, reduceCtorEq, if_true, if_false]; rfl) | simp only []) ⟨none, 0, by rw [if_neg h0]; rfl, by rw [if_neg h0]; exact .nil _, hx1⟩
  rw [if_pos h0]
  repeat' (first | refine EvC.seq ?_ | refine EvC.scope ?_ | refine EvC.block ?_ | (refine EvC.skip ?_; try simp only [thenC_normal]) | (refine EvC.exit ?_) | (refine EvC.ret ?_; try simp only [thenC_ret, inBlock_ret]) | (refine EvC.reg ?_; simp (config := { maxSteps := 2000000 }) (disch := first | omega | rfl) only [sA, dAlloc, Nat.reduceEqDiff, one, reduceCtorEq, if_true, if_false, zr90, st90, cl66, ine_f h0, dop_makeMap]) | (refine EvC.condT ?_ ?_; simp (config := { maxSteps := 2000000 }) (disch := first | omega | rfl) only [sA, Nat.reduceEqDiff, reduceCtorEq, if_true, if_false]; refine EvC_go ?_) | (refine EvC.condF ?_ ?_; simp (config := { maxSteps := 2000000 }) (disch := first | omega | rfl) only [sA, Nat.reduceEqDiff, reduceCtorEq, if_true, if_false]; refine EvC_go ?_))
  obtain ⟨H2, e2, hx2, gr, n2, w2⟩ := new1 hx1.wf (.map [] 0)
  obtain ⟨H3, e3, hx3, gm, n3, w3⟩ := newput w2 (.row [.map none] 90) (.row [.map (some H1.next)] 90)
  rw [n2] at e3 gm n3
  simp only [e2, e3]
  have hx23 := (hx1.trans hx2).trans hx3
  refine (variables_ev (rl.mono hx23 hw) hlen w3).mono ?_
  rintro v H4 ⟨hi4, hx4⟩
  obtain ⟨av, cv, rfl, hcv1, hcv2⟩ := hi4.slice
  have hLl : (uniq (occL l)).length ≤ most := Nat.le_trans (uniq_len _) hlen
  have hnd := uniq_nodup (occL l)
  have nn4 := hx4.next
  have hxh4 := hx23.trans hx4
  have hm4 : MapR H4 H1.next [] := ⟨[], 0, hx4.get w3 (hx3.get w2 gr), rfl⟩
  have gm4 := hx4.get w3 gm
  try simp (config := { maxSteps := 2000000 }) (disch := first | omega | rfl) only [sA, ln46]
  unfold plainL
  generalize hLdef : uniq (occL l) = L at *
  refine EvC.meet (fun st => ∃ tm H', st = ⟨tm, [], H'⟩ ∧ tm.get 0 = some (.slice a l.length c) ∧ tm.get 5 = some (.pointer (some ⟨H1.next + 1, 0, none⟩)) ∧ PlJ L (H1.next + 1) H1.next H' ∧ HX H H') ?_ ?_
  · refine EvC.block (EvC.loop (fun k st => ∃ tm H' i M, st = ⟨tm, [], H'⟩ ∧ k = L.length - i ∧ i ≤ L.length ∧ tm.get 0 = some (.slice a l.length c) ∧ tm.get 5 = some (.pointer (some ⟨H1.next + 1, 0, none⟩)) ∧ tm.get 18 = some (.slice av L.length cv) ∧ tm.get 19 = some (.int .i64 L.length) ∧ tm.get 20 = some (.int .i64 (i : Nat)) ∧
      H'.get (H1.next + 1) = some (.row [.map (some H1.next)] 90) ∧ MapR H' H1.next M ∧ (∀ m, mGet M m = ((L.take i).idxOf? m).map fun i : Nat => Value.int .i64 (i : Int)) ∧ IntL H' 3 (Rg H3.next H4.next) L (.slice av L.length cv) ∧ HX H H') ?_ L.length _ ?_)
    · rintro k st ⟨tm, H', i, M, rfl, rfl, hi, t0, t5, t18, t19, t20, gm', hm', hk', hil, hx'⟩
      by_cases hlt : i < L.length
      · obtain ⟨b, rfl, -, hld, hbS⟩ := hil.at hlt
        have lm : H'.load ⟨H1.next + 1, 0, none⟩ 1 = some [.map (some H1.next)] := by unfold Heap.load Heap.cells; simp only [gm']; rfl
        have hnot : L[i] ∉ L.take i := by
          intro hmem
          obtain ⟨j, hj, e⟩ := List.getElem_of_mem hmem
          rw [List.getElem_take] at e
          have hj' : j < i := by rw [List.length_take] at hj; omega
          exact List.pairwise_iff_getElem.1 hnd j i (by omega) hlt hj' e
        have hg : mGet M L[i] = none := by
          rw [hk']
          have : (L.take i).idxOf? L[i] = none := by
            unfold List.idxOf?
            rw [List.findIdx?_eq_none_iff]
            intro x hx; simp; intro e; exact hnot (e ▸ hx)
          rw [this]; rfl
        obtain ⟨B, eu, hm2⟩ := dUp_new (v := .int .i64 (i : Nat)) mapI hm' hg
        have lr := hm'.lt hx'.wf
        repeat' (first | refine EvC.seq ?_ | refine EvC.scope ?_ | refine EvC.block ?_ | (refine EvC.skip ?_; try simp only [thenC_normal]) | (refine EvC.exit ?_) | (refine EvC.ret ?_; try simp only [thenC_ret, inBlock_ret]) | (refine EvC.reg ?_; simp (config := { maxSteps := 2000000 }) (disch := first | omega | rfl) only [sA, Nat.reduceEqDiff, if_true, if_false, ia46, ld3, ld90, t5, t18, t19, t20, decl hlt, hld, lm, dop_mapUpdate, eu, wrap_i64]) | (refine EvC.condT ?_ ?_; simp (config := { maxSteps := 2000000 }) (disch := first | omega | rfl) only [sA, if_true]; refine EvC_go ?_))
        refine ⟨L.length - (i + 1), by omega, _, _, i + 1, M ++ [(L[i], .int .i64 (i : Nat))], rfl, rfl, by omega, (by first | (simp only [Tr.get_put, reduceCtorEq, if_false, t0]; rfl) | simp only [Tr.get_put, reduceCtorEq, if_false, t0]), (by first | (simp only [Tr.get_put, Nat.reduceEqDiff, if_false, t5]; rfl) | simp only [Tr.get_put, Nat.reduceEqDiff, if_false, t5]), (by first | (simp only [Tr.get_put, Nat.reduceEqDiff, if_false, t18]; rfl) | simp only [Tr.get_put, Nat.reduceEqDiff, if_false, t18]), (by first | (simp only [Tr.get_put, Nat.reduceEqDiff, if_false, t19]; rfl) | simp only [Tr.get_put, Nat.reduceEqDiff, if_false, t19]), (by first | (simp only [sA, Nat.reduceEqDiff, if_true, if_false]; rfl) | simp only []), by rw [get_put, if_neg (by omega)]; exact gm', hm2, fun m => ?_, hil.heap (fun n hn _ => by have := hn.1; rw [get_put, if_neg (by omega)]) hx'.wf, hx'.put (by omega) lr _⟩
        rw [mGet_snoc hg, ← List.take_append_getElem hlt, idx_snoc hnot]
        by_cases hm : m = L[i]
        · rw [if_pos hm, if_pos hm]
          have : (L.take i).length = i := by rw [List.length_take]; omega
          rw [this]; rfl
        · rw [if_neg hm, if_neg hm]; exact hk' m
      · repeat' (first | refine EvC.seq ?_ | refine EvC.scope ?_ | refine EvC.block ?_ | (refine EvC.skip ?_) | (refine EvC.exit ?_; try simp only [sA, reduceCtorEq, if_true]) | (refine EvC.ret ?_; try simp only [thenC_ret, inBlock_ret]) | (refine EvC.reg ?_; simp (config := { maxSteps := 2000000 }) (disch := first | omega | rfl) only [sA, t19, t20, decn hlt]) | (refine EvC.condT ?_ ?_; simp (config := { maxSteps := 2000000 }) (disch := first | omega | rfl) only [sA, if_true]; refine EvC_go ?_) | (refine EvC.condF ?_ ?_; simp (config := { maxSteps := 2000000 }) (disch := first | omega | rfl) only [sA, if_true]; refine EvC_go ?_))
        have hiL : i = L.length := by omega
        rw [hiL, List.take_of_length_le (Nat.le_refl _)] at hk'
        exact ⟨_, _, rfl, (by first | (simp only [Tr.get_put, reduceCtorEq, if_false, t0]; rfl) | simp only [Tr.get_put, reduceCtorEq, if_false, t0]), (by first | (simp only [Tr.get_put, Nat.reduceEqDiff, if_false, t5]; rfl) | simp only [Tr.get_put, Nat.reduceEqDiff, if_false, t5]), ⟨hx'.wf, gm', M, hm', hk'⟩, hx'⟩
    · exact ⟨_, _, 0, [], rfl, rfl, by omega, (by first | (simp only [Tr.get_put, reduceCtorEq, if_true, if_false]; rfl) | simp only [Tr.get_put, reduceCtorEq, if_true, if_false]), (by first | (simp only [Tr.get_put, Nat.reduceEqDiff, reduceCtorEq, if_true, if_false]; rfl) | simp only [Tr.get_put, Nat.reduceEqDiff, reduceCtorEq, if_true, if_false]), (by first | (simp only [Tr.get_put, Nat.reduceEqDiff, reduceCtorEq, if_true, if_false]; rfl) | simp only [Tr.get_put, Nat.reduceEqDiff, reduceCtorEq, if_true, if_false]), (by first | (simp only [Tr.get_put, Nat.reduceEqDiff, reduceCtorEq, if_true, if_false]; rfl) | simp only [Tr.get_put, Nat.reduceEqDiff, reduceCtorEq, if_true, if_false]), (by first | (simp only [sA, Nat.reduceEqDiff, reduceCtorEq, if_true, if_false]; rfl) | simp only []), gm4, hm4, fun m => by simp [mGet], hi4, hxh4⟩
  rintro st ⟨tm, H5, rfl, t0, t5, hj5, hx5⟩
  repeat' (first | refine EvC.seq ?_ | refine EvC.scope ?_ | refine EvC.block ?_ | (refine EvC.skip ?_) | (refine EvC.exit ?_) | (refine EvC.ret ?_; try simp only [thenC_ret, inBlock_ret]) | (refine EvC.reg ?_; simp (config := { maxSteps := 2000000 }) (disch := first | omega | rfl) only [sA, Nat.reduceEqDiff, reduceCtorEq, if_true, if_false, ln24, t0, dMk_nat mk24]))
  obtain ⟨H6, e6, hx6, g6, n6, w6⟩ := new1 hx5.wf (.row (repL l.length zero6) 26)
  simp only [e6]
  have hxh6 := hx5.trans hx6
  have nn5 := hx5.next
  have lpm5 := hj5.1 _ _ hj5.2.1
  have B := plainBy (pm := H1.next + 1) (r := H1.next) hLl
  refine EvC.loop (fun k st => ∃ tm H' i cells' Si ai ci, st = ⟨tm, [], H'⟩ ∧ k = l.length - i ∧ i ≤ l.length ∧ tm.get 5 = some (.pointer (some ⟨H1.next + 1, 0, none⟩)) ∧ tm.get 8 = some (.slice (some ⟨H5.next, 0, none⟩) l.length l.length) ∧ tm.get 32 = some (.slice a l.length c) ∧ tm.get 33 = some (.int .i64 l.length) ∧ tm.get 34 = some (.int .i64 (i : Nat)) ∧
      H'.get H5.next = some (.row cells' 26) ∧ cells'.length = l.length * 6 ∧ FLs H' 26 (Rg (H5.next + 1) H'.next) ((l.take i).map (sub fun n => varT (plcZ L n))) cells' Si ai ci ∧ PlJ L (H1.next + 1) H1.next H' ∧ HX H H') ?_ l.length _ ?_
  · rintro k st ⟨tm, H', i, cells', Si, ai, ci, rfl, rfl, hi, t5, t8, t32, t33, t34, gr', hlen', hfl, hj', hx'⟩
    by_cases hlt : i < l.length
    · obtain ⟨b, o, a1, c1, rfl, hld, hr1⟩ := rl.el hlt
      have hld1 := hx'.load hw hld
      repeat' (first | refine EvC.seq ?_ | refine EvC.scope ?_ | refine EvC.block ?_ | (refine EvC.skip ?_; try simp only [thenC_normal]) | (refine EvC.exit ?_) | (refine EvC.ret ?_; try simp only [thenC_ret, inBlock_ret]) | (refine EvC.reg ?_; simp (config := { maxSteps := 2000000 }) (disch := first | omega | rfl) only [sA, dAlloc, Nat.reduceEqDiff, Nat.reduceAdd, one, if_true, if_false, cutC, ia24, ld26, zr26, st26, cl67, t5, t8, t32, t33, t34, decl hlt, hld1, List.map_toArray]) | (refine EvC.condT ?_ ?_; simp (config := { maxSteps := 2000000 }) (disch := first | omega | rfl) only [sA, if_true]; refine EvC_go ?_))
      obtain ⟨H7, e7, hx7, g7, n7, w7⟩ := newput hx'.wf (.row zero6 26) (.row (six l[i] a1 c1) 26)
      simp only [e7]
      have hfine : Fine l[i] := (check_zero.1 (chkL_zero h0 _ (List.getElem_mem _))).2
      refine (turned_ev (by kernel_rfl) B (Nat.lt_succ_self _) (hr1.mono (hx'.trans hx7) hw) hfine (B.stay _ _ hj' hx7) w7).mono ?_
      rintro v H8 ⟨cs', rfl, ⟨a2, c2, rfl, hb2, hf2⟩, hx8⟩
      have hx78 := hx7.trans hx8
      have gr8 := hx78.get hx'.wf gr'
      have hle : i * 6 + 6 ≤ cells'.length := by rw [hlen']; exact mul6 hlt
      have nn7 := hx78.next
      have nn8 := hx8.next
      have lt5 := hx'.wf _ _ gr'
      repeat' (first | refine EvC.seq ?_ | refine EvC.scope ?_ | refine EvC.block ?_ | (refine EvC.skip ?_) | (refine EvC.exit ?_) | (refine EvC.ret ?_; try simp only [thenC_ret, inBlock_ret]) | (refine EvC.reg ?_; simp (config := { maxSteps := 2000000 }) (disch := first | omega | rfl) only [sA, Nat.reduceEqDiff, if_true, if_false, t34, wrap_i64]) | (refine LX_go ?_; simp (config := { maxSteps := 2000000 }) (disch := first | omega | rfl) only [sA, Nat.reduceAdd, one, if_true, st26, gr8, hle]))
      have et : (l.take (i + 1)).map (sub fun n => varT (plcZ L n)) = (l.take i).map (sub fun n => varT (plcZ L n)) ++ [sub (fun n => varT (plcZ L n)) l[i]] := by rw [← List.take_append_getElem hlt, List.map_append]; rfl
      have etl : ((l.take i).map (sub fun n => varT (plcZ L n))).length = i := by rw [List.length_map, List.length_take]; omega
      obtain ⟨Si', ai', ci', hsn⟩ : ∃ Si ai ci, FLs (H8.put H5.next (some (.row (Hb.splice cells' (i * 6) (six (sub (fun n => varT (plcZ L n)) l[i]) a2 c2)) 26))) 26 (Rg (H5.next + 1) H8.next) ((l.take (i + 1)).map (sub fun n => varT (plcZ L n))) (Hb.splice cells' (i * 6) (six (sub (fun n => varT (plcZ L n)) l[i]) a2 c2)) Si ai ci := by
        rw [et]
        refine ⟨_, _, _, hfl.snoc (S' := Rg (H5.next + 1) H8.next) (N := Rg H7.next H8.next) (fun n hn hl => ?_) hx'.wf (hf2.heap (fun n hn hl => ?_) hx8.wf) hb2 (fun n hn hs => ?_) (fun n hn => ?_) (fun n hn => ?_) (fun j hj => ?_) ?_⟩
        · have := hn.1
          rw [get_put, if_neg (by omega)]; exact hx78.keep n hl
        · have := hn.1
          rw [get_put, if_neg (by omega)]
        · have := hn.1; have := hs.2; omega
        · exact ⟨hn.1, by have := hn.2; omega⟩
        · exact ⟨by have := hn.1; omega, hn.2⟩
        · rw [etl] at hj
          exact splice_other hle rfl (.inl (mul6 hj))
        · rw [etl]
          exact splice_same hle rfl
      have hj8 : PlJ L (H1.next + 1) H1.next (H8.put H5.next (some (.row (Hb.splice cells' (i * 6) (six (sub (fun n => varT (plcZ L n)) l[i]) a2 c2)) 26))) := by
        obtain ⟨w8, gm8, M, hm8, hk8⟩ := B.stay _ _ hj' hx78
        exact ⟨((HK.refl (S := fun _ => True) w8).put (.inl trivial) (by omega) _).wf, by rw [get_put, if_neg (by omega)]; exact gm8, M, hm8.heap (by rw [get_put, if_neg (by omega)]), hk8⟩
      exact ⟨l.length - (i + 1), by omega, _, _, i + 1, Hb.splice cells' (i * 6) (six (sub (fun n => varT (plcZ L n)) l[i]) a2 c2), Si', ai', ci', rfl, rfl, by omega, (by first | (simp only [Tr.get_put, Nat.reduceEqDiff, if_false, t5]; rfl) | simp only [Tr.get_put, Nat.reduceEqDiff, if_false, t5]), (by first | (simp only [Tr.get_put, Nat.reduceEqDiff, if_false, t8]; rfl) | simp only [Tr.get_put, Nat.reduceEqDiff, if_false, t8]), (by first | (simp only [Tr.get_put, Nat.reduceEqDiff, if_false, t32]; rfl) | simp only [Tr.get_put, Nat.reduceEqDiff, if_false, t32]), (by first | (simp only [Tr.get_put, Nat.reduceEqDiff, if_false, t33]; rfl) | simp only [Tr.get_put, Nat.reduceEqDiff, if_false, t33]), (by first | (simp only [sA, Nat.reduceEqDiff, if_true, if_false]; rfl) | simp only []),
        by rw [get_put, if_pos rfl], by rw [splice_len hle]; exact hlen', hsn, hj8, (hx'.trans hx78).pt (by omega) gr8 _⟩
    · repeat' (first | refine EvC.seq ?_ | refine EvC.scope ?_ | refine EvC.block ?_ | (refine EvC.skip ?_) | (refine EvC.exit ?_; try simp only [sA, if_true]) | (refine EvC.ret ?_; try simp only [thenC_ret, inBlock_ret]) | (refine EvC.reg ?_; simp (config := { maxSteps := 2000000 }) (disch := first | omega | rfl) only [sA, Nat.reduceEqDiff, if_true, if_false, t8, t33, t34, decn hlt]) | (refine EvC.condT ?_ ?_; simp (config := { maxSteps := 2000000 }) (disch := first | omega | rfl) only [sA, if_true]; refine EvC_go ?_) | (refine EvC.condF ?_ ?_; simp (config := { maxSteps := 2000000 }) (disch := first | omega | rfl) only [sA, if_true]; refine EvC_go ?_))
      have hi' : i = l.length := by omega
      rw [hi', List.take_of_length_le (Nat.le_refl _)] at hfl
      refine leave_two rfl (by first | (simp only [sA, Nat.reduceEqDiff, if_true, if_false]; rfl) | simp only []) (by first | (simp only [sA, Nat.reduceEqDiff, if_true, if_false]; rfl) | simp only []) ⟨some ⟨H5.next, 0, none⟩, l.length, by rw [h0, List.length_map], ?_, hx'⟩
      refine hfl.row (by rw [List.length_map]; exact Nat.le_refl _) (Nat.le_trans hl (by simp [most, maxLen])) gr' (by rw [List.length_map]; omega) ⟨by omega, hx'.wf _ _ gr'⟩ (fun h => by have := h.1; omega) (fun n hn => ⟨by have := hn.1; omega, hn.2⟩)
  · exact ⟨_, _, 0, repL l.length zero6, fun _ _ => False, fun _ => none, fun _ => 0, rfl, rfl, by omega, (by first | (simp only [Tr.get_put, Nat.reduceEqDiff, if_false, t5]; rfl) | simp only [Tr.get_put, Nat.reduceEqDiff, if_false, t5]), (by first | (simp only [Tr.get_put, Nat.reduceEqDiff, if_true, if_false]; rfl) | simp only [Tr.get_put, Nat.reduceEqDiff, if_true, if_false]), (by first | (simp only [Tr.get_put, Nat.reduceEqDiff, if_true, if_false]; rfl) | simp only [Tr.get_put, Nat.reduceEqDiff, if_true, if_false]), (by first | (simp only [Tr.get_put, Nat.reduceEqDiff, if_true, if_false]; rfl) | simp only [Tr.get_put, Nat.reduceEqDiff, if_true, if_false]), (by first | (simp only [sA, Nat.reduceEqDiff, if_true, if_false]; rfl) | simp only []), g6, by rw [repL_length]; rfl, FLs.nil, B.stay _ _ hj5 hx6, hxh6⟩
end Go.Proofs.YtlllbkjiadcloaaDoor.hb
end

-- U10
section
/- Terms with their variables numbered anew: the reference's. -/
namespace Go.Proofs.YtlllbkjiadcloaaDoor.hb
open Go Go.RowKit Go.Hb
variable {ok : Ok}
set_option maxRecDepth 10000
attribute [local irreducible] LX LG EL STG SOP SGO SGD SAL SRD SEF SEG SLK SCK ES
-- @veq
abbrev bindC (n : Int) (i : Nat) : List Value := [.int .i64 n, .int .i64 1, .string ByteArray.empty, .string ByteArray.empty, .int .u64 0, .int .i64 (i : Nat), .slice none 0 0]
def cellsB : List Int → Nat → List Value
  | [], _ => []
  | n :: L, i => bindC n i ++ cellsB L (i + 1)
def bndsB : List Int → Nat → List (Int × Tm)
  | [], _ => []
  | n :: L, i => (n, varT (i : Nat)) :: bndsB L (i + 1)
theorem cellsB_len : ∀ (L : List Int) (i : Nat), (cellsB L i).length = L.length * 7
  | [], i => rfl
  | n :: L, i => by
    have h7 : (bindC n i).length = 7 := rfl
    rw [cellsB, List.length_append, cellsB_len L (i + 1), h7, show (n :: L).length = L.length + 1 from rfl]; omega
theorem bndsB_len : ∀ (L : List Int) (i : Nat), (bndsB L i).length = L.length
  | [], i => rfl
  | n :: L, i => by rw [bndsB, List.length_cons, bndsB_len L (i + 1), List.length_cons]
theorem cellsB_snoc (n : Int) : ∀ (L : List Int) (i : Nat), cellsB (L ++ [n]) i = cellsB L i ++ bindC n (i + L.length)
  | [], i => by rw [List.nil_append, cellsB, cellsB, cellsB]; rfl
  | m :: L, i => by
    rw [List.cons_append, cellsB, cellsB_snoc n L (i + 1), cellsB, List.append_assoc, List.length_cons, show i + 1 + L.length = i + (L.length + 1) by omega]
theorem cellsB_ones : ∀ (L : List Int) (i : Nat), (cellsB L i).all one = true
  | [], i => rfl
  | n :: L, i => by rw [cellsB, List.all_append, cellsB_ones L (i + 1)]; rfl
theorem cellsB_at : ∀ (L : List Int) (i j : Nat) (h : j < L.length), ((cellsB L i).drop (j * 7)).take 7 = bindC L[j] (i + j)
  | [], _, _, h => by simp at h
  | n :: L, i, 0, _ => by
    rw [cellsB, Nat.zero_mul, List.drop_zero, List.take_append_of_le_length (by simp)]; rfl
  | n :: L, i, j + 1, h => by
    have h7 : (bindC n i).length = 7 := rfl
    rw [cellsB, Nat.succ_mul, Nat.add_comm (j * 7) 7, ← List.drop_drop, List.drop_left' h7, cellsB_at L (i + 1) j (by simpa using h)]
    simp only [List.getElem_cons_succ]
    rw [show i + 1 + j = i + (j + 1) by omega]
theorem bndsB_at : ∀ (L : List Int) (i j : Nat) (h : j < (bndsB L i).length) (h' : j < L.length), (bndsB L i)[j] = (L[j], varT ((i + j : Nat) : Int))
  | [], _, _, _, h => by simp at h
  | n :: L, i, 0, _, _ => rfl
  | n :: L, i, j + 1, h, h' => by
    have := bndsB_at L (i + 1) j (by rw [bndsB_len]; simpa using h') (by simpa using h')
    simp only [bndsB, List.getElem_cons_succ]
    rw [this, show i + 1 + j = i + (j + 1) by omega]
theorem bndsB_find {n : Int} : ∀ (L : List Int) (i : Nat), n ∈ L → ∃ p, (bndsB L i).find? (fun p => p.1 == n) = some p ∧ p.2 = varT ((i : Int) + plcZ L n)
  | [], i, h => by simp at h
  | m :: L, i, h => by
    by_cases hm : m = n
    · subst hm
      exact ⟨(m, varT (i : Nat)), by simp [bndsB, List.find?_cons], by simp [plcZ, List.idxOf?, List.findIdx?_cons]⟩
    · have hb : (m == n) = false := by simp [hm]
      obtain ⟨p, h1, h2⟩ := bndsB_find (n := n) L (i + 1) (by rcases List.mem_cons.1 h with h | h; exact absurd h.symm hm; exact h)
      refine ⟨p, by rw [bndsB, List.find?_cons]; simp only [hb]; exact h1, ?_⟩
      rw [h2]
      have hin : n ∈ L := by rcases List.mem_cons.1 h with h | h; exact absurd h.symm hm; exact h
      unfold plcZ List.idxOf?
      rw [List.findIdx?_cons, hb]
      simp only [Bool.false_eq_true, if_false]
      cases hf : L.findIdx? fun x => x == n with
      | none => rw [List.findIdx?_eq_none_iff] at hf; have := hf n hin; simp at this
      | some k => simp; congr 1; omega
theorem mem_uniq {n : Int} : ∀ (l : List Int), n ∈ l → n ∈ uniq l := by
  have h : ∀ (l L : List Int), (n ∈ L ∨ n ∈ l) → n ∈ l.foldl addU L := by
    intro l
    induction l with
    | nil => intro L h; rcases h with h | h; exact h; simp at h
    | cons m l ih =>
      intro L h
      refine ih _ ?_
      unfold addU
      rcases h with h | h
      · left; split; exact h; simp [h]
      · rcases List.mem_cons.1 h with rfl | h
        · left; split; assumption; simp
        · exact .inr h
  exact fun l hl => h l [] (.inr hl)
theorem occ_in {n : Int} {t : Tm} : ∀ {l : List Tm}, t ∈ l → n ∈ occ t → n ∈ occL l
  | [], h, _ => by simp at h
  | u :: l, h, hn => by
    rw [occL]
    rcases List.mem_cons.1 h with rfl | h
    · exact List.mem_append.2 (.inl hn)
    · exact List.mem_append.2 (.inr (occ_in h hn))
/-- binds that are made one by one -/
def BnL (H : Heap) (S : Nat → Prop) (L : List Int) (v : Value) : Prop :=
  (L = [] ∧ v = .slice none 0 0) ∨ ∃ b c, v = .slice (some ⟨b, 0, none⟩) L.length c ∧ L.length ≤ c ∧ c ≤ maxLen ∧ H.get b = some (.row (cellsB L 0) 59) ∧ S b
theorem BnL.rep {H : Heap} {S : Nat → Prop} {L : List Int} {v : Value} (h : BnL H S L v) (hL : L.length ≤ most) : ∃ a c, v = .slice a (bndsB L 0).length c ∧ RepBs H (bndsB L 0) a c := by
  have hms : most ≤ 9223372036854775807 := by simp [most]
  rcases h with ⟨rfl, rfl⟩ | ⟨b, c, rfl, h1, h2, h3, h4⟩
  · exact ⟨none, 0, rfl, Nat.le_refl _, Nat.zero_le _, fun i hi => by simp [bndsB] at hi⟩
  · refine ⟨_, c, by rw [bndsB_len], by rw [bndsB_len]; exact h1, h2, fun i hi => ?_⟩
    have hi' : i < L.length := by rw [bndsB_len] at hi; exact hi
    have hat := bndsB_at L 0 i hi hi'
    have hc := cellsB_at L 0 i hi'
    rw [Nat.zero_add] at hat hc
    have c1 : ((cellsB L 0).drop (i * 7)).take 1 = [.int .i64 L[i]] := by
      have := congrArg (List.take 1) hc
      rw [List.take_take] at this; exact this
    have c6 : ((cellsB L 0).drop (i * 7 + 1)).take 6 = six (varT (i : Nat)) none 0 := by
      have := congrArg (fun x => (x.drop 1)) hc
      simp only [List.drop_take, List.drop_drop] at this
      exact this
    rw [hat]
    refine ⟨b, 0, none, 0, rfl, ?_, ?_, var_rep ⟨by omega, by omega⟩⟩
    · unfold Heap.load Heap.cells; simp only [h3, Nat.zero_add, c1]; rfl
    · unfold Heap.load Heap.cells; simp only [h3, Nat.zero_add, c6]; rfl
theorem BnL.push {H : Heap} {S S2 : Nat → Prop} {L : List Int} {n : Int} {v : Value} {ad : Addr} {c1 : Nat} (h : BnL H S L v) (hw : H.wf) (hl : H.load ad (1 * 7) = some (bindC n L.length)) (hm : L.length + 1 ≤ most) (h2 : S2 H.next) :
    ∃ H2 v2, dAp Tryd.prog #[57, 57] v (.slice (some ad) 1 c1) H = some (.val v2 H2) ∧ BnL H2 S2 (L ++ [n]) v2 ∧ HK S H H2 ∧ H2.next = H.next + 1 := by
  have hp : apOk Tryd.prog 57 59 7 := ap57
  have hmax : L.length + 1 ≤ maxLen := Nat.le_trans hm (by simp [most, maxLen])
  have hcl := cellsB_len L 0
  rcases h with ⟨rfl, rfl⟩ | ⟨b, c, rfl, hlc, hcm, hg, hs⟩
  · exact ⟨_, _, dAp_new hp (by omega) hm hl rfl, .inr ⟨H.next, 1, rfl, Nat.le_refl _, hmax, gt_new_eq, h2⟩, ((HX.refl hw).new _).hk _, rfl⟩
  · refine ⟨_, _, dAp_row hp (by omega) hm hl rfl hg (by omega) (by rw [List.take_of_length_le (by omega)]; exact cellsB_ones L 0), .inr ⟨H.next, L.length + 1, by simp, by simp, hmax, ?_, h2⟩, ((HK.refl hw).put (.inl hs) (hw _ _ hg) none).new _, rfl⟩
    show ((H.put b none).new _).get (H.put b none).next = _
    rw [gt_new_eq, List.take_of_length_le (by omega), cellsB_snoc, Nat.zero_add]
theorem BnL.heap {H H' : Heap} {S : Nat → Prop} {L : List Int} {v : Value} (h : BnL H S L v) (hk : ∀ n, S n → n < H.next → H'.get n = H.get n) (hw : H.wf) : BnL H' S L v := by
  rcases h with h | ⟨b, c, h1, h2, h3, h4, h5⟩
  · exact .inl h
  · exact .inr ⟨b, c, h1, h2, h3, (hk b h5 (hw _ _ h4)).trans h4, h5⟩
theorem BnL.slice {H : Heap} {S : Nat → Prop} {L : List Int} {v : Value} (h : BnL H S L v) : ∃ a c, v = .slice a L.length c := by
  rcases h with ⟨rfl, rfl⟩ | ⟨b, c, rfl, -⟩
  · exact ⟨none, 0, rfl⟩
  · exact ⟨_, c, rfl⟩

-- hornbeamref02.Plain
set_option maxHeartbeats 8000000 in
theorem plainR_ev {l : List Tm} {a : Option Addr} {c : Nat} {cells : Nat → List Value} {H : Heap} (rl : RepL H l a c cells) (hf : ∀ t ∈ l, Fine t) (hlen : (occL l).length ≤ most) (hl : l.length ≤ most) (hw : H.wf) :
    EvF Tryd.prog okT 28 [.slice a l.length c] H fun v H' => ∃ a' c', v = .slice a' (plainL l).length c' ∧ FL H' 26 (Rg H.next H'.next) (plainL l) a' c' ∧ HX H H' := by
  have hmx := rl.max
  have hms : most ≤ 9223372036854775807 := by simp [most]
  have ean : apOk Tryd.prog 24 26 6 := ap24
  refine EvF.enter rfl Tryd.func28 (by decide) rfl ?_
  repeat' (first | refine EvC.seq ?_ | refine EvC.scope ?_ | refine EvC.block ?_ | (refine EvC.skip ?_) | (refine EvC.exit ?_) | (refine EvC.ret ?_; try simp only [thenC_ret, inBlock_ret]) | (refine EvC.reg ?_; simp (config := { maxSteps := 2000000 }) (disch := first | omega | rfl) only [sA, initTm, Nat.reduceEqDiff, reduceCtorEq, if_true, if_false, cl27]))
  refine (allVars_ev rl hlen hw).mono ?_
  rintro v H1 ⟨hi1, hx1⟩
  have nn1 := hx1.next
  have hLl : (uniq (occL l)).length ≤ most := Nat.le_trans (uniq_len _) hlen
  have hmem : ∀ t ∈ l, ∀ n ∈ occ t, n ∈ uniq (occL l) := fun t ht n hn => mem_uniq _ (occ_in ht hn)
  try simp (config := { maxSteps := 2000000 }) (disch := first | omega | rfl) only []
  (repeat refine EvC.seq ?_); refine EvC.reg ?_; simp (config := { maxSteps := 2000000 }) (disch := first | omega | rfl) only [sA]
  (repeat refine EvC.seq ?_); refine EvC.reg ?_; simp (config := { maxSteps := 2000000 }) (disch := first | omega | rfl) only [sA]
  unfold plainL
  generalize hLdef : uniq (occL l) = L at *
  obtain ⟨av, cv, rfl, hrd, hSv⟩ := hi1.rd
  refine EvC.meet (fun st => ∃ tm H' vb S, st = ⟨tm, [], H'⟩ ∧ tm.get 0 = some (.slice a l.length c) ∧ tm.get 4 = some vb ∧ BnL H' S L vb ∧ HX H H') ?_ ?_
  · refine EvC.block (EvC.loop (fun k st => ∃ tm H' i vb S, st = ⟨tm, [], H'⟩ ∧ k = L.length - i ∧ i ≤ L.length ∧ tm.get 0 = some (.slice a l.length c) ∧ tm.get 3 = some (.slice av L.length cv) ∧ tm.get 4 = some vb ∧ tm.get 5 = some (.int .i64 (i : Nat)) ∧
      BnL H' S (L.take i) vb ∧ (∀ n, S n → H1.next ≤ n ∧ n < H'.next) ∧ HX H1 H') ?_ L.length _ ?_)
    · rintro k st ⟨tm, H', i, vb, S, rfl, rfl, hi, t0, t3, t4, t5, hb, hS, hx'⟩
      by_cases hlt : i < L.length
      · obtain ⟨b, o, rfl, hld⟩ := hrd.get i hlt
        have hld1 := hx'.load hx1.wf hld
        repeat' (first | refine EvC.seq ?_ | refine EvC.scope ?_ | refine EvC.block ?_ | (refine EvC.skip ?_; try simp only [thenC_normal]) | (refine EvC.exit ?_) | (refine EvC.ret ?_; try simp only [thenC_ret, inBlock_ret]) | (refine EvC.reg ?_; simp (config := { maxSteps := 2000000 }) (disch := first | omega | rfl) only [sA, Nat.reduceEqDiff, if_true, if_false, ln46, t3, t5, decl hlt]) | (refine EvC.drw [([(5, 0)], some 6), ([(0, 0), (1, 0), (2, 0), (3, 0), (4, 0), (7, 1), (8, 1)], some 9), ([(10, 2)], none)] ?_ ?_; kernel_rfl; simp (config := { maxSteps := 2000000 }) (disch := first | omega | rfl) only [sD, sA, Nat.reduceEqDiff, Nat.reduceAdd, if_true, if_false, cl46, t5, isAlloc, isRead]) | (refine EvC.condT ?_ ?_; simp (config := { maxSteps := 2000000 }) (disch := first | omega | rfl) only [sA, Nat.reduceEqDiff, if_true, if_false]; refine EvC_go ?_))
        have hbm := hx'.bump 11
        refine (V_ev hbm.wf).mono ?_
        rintro v H3 ⟨rfl, hx3⟩
        have hld3 := hx3.load hbm.wf (show Heap.load ⟨H'.next + 11, H'.t⟩ _ _ = _ from hld1)
        have hb3 := ((HX.refl hx'.wf).bump 11).trans hx3
        have n3 : H'.next + 11 ≤ H3.next := hx3.next
        repeat' (first | refine EvC.seq ?_ | refine EvC.scope ?_ | refine EvC.block ?_ | (refine EvC.skip ?_) | (refine EvC.exit ?_) | (refine EvC.ret ?_; try simp only [thenC_ret, inBlock_ret]) | (refine SCK_go ?_; simp (config := { maxSteps := 2000000 }) (disch := first | omega | rfl) only [sV, sD, sA, Nat.reduceEqDiff, Nat.reduceAdd, Value.cells, one, reduceCtorEq, if_true, if_false, Nat.reduceLeDiff, layC, ia46, ld3, bd59, bs57_1, t3, t4, t5, hld1, hld3, isAlloc, isRead, dalloc, reduceCtorEq, Bool.and_true]))
        have hx6 : HX H' (H3.put (H'.next + 8) (some (.row [.int .i64 L[i], .int .i64 1, .string ByteArray.empty, .string ByteArray.empty, .int .u64 0, .int .i64 (i : Nat), .slice none 0 0] 59))) := hb3.put (i := H'.next + 8) (Nat.le_add_right _ _) (by omega) _
        obtain ⟨H6, e6⟩ : ∃ H6, H3.put (H'.next + 8) (some (.row [.int .i64 L[i], .int .i64 1, .string ByteArray.empty, .string ByteArray.empty, .int .u64 0, .int .i64 (i : Nat), .slice none 0 0] 59)) = H6 := ⟨_, rfl⟩
        have g6 : H6.get (H'.next + 8) = some (.row (bindC L[i] i) 59) := by rw [← e6, get_put, if_pos rfl]
        have hn6 : H6.next = H3.next := by rw [← e6, next_put]
        rw [e6] at hx6
        have etl : (L.take i).length = i := by rw [List.length_take]; omega
        obtain ⟨H7, v2, e7, hb7, hk7, hn7⟩ := BnL.push (S2 := fun n => n = H6.next) (n := L[i]) (ad := ⟨H'.next + 8, 0, none⟩) (c1 := 1) (hb.heap (H' := H6) (fun n _ hl => hx6.keep n hl) hx'.wf) hx6.wf
          (by rw [etl]; unfold Heap.load Heap.cells; simp only [g6]; rfl) (by rw [etl]; omega) rfl
        have hx7 : HX H1 H7 := (hx'.trans hx6).then hk7 fun n hn hs => by have := (hS n hs).1; omega
        repeat' (first | refine EvC.seq ?_ | refine EvC.scope ?_ | refine EvC.block ?_ | (refine EvC.skip ?_) | (refine EvC.exit ?_) | (refine EvC.ret ?_; try simp only [thenC_ret, inBlock_ret]) | (refine EvC.reg ?_; simp (config := { maxSteps := 2000000 }) (disch := first | omega | rfl) only [sA, Nat.reduceEqDiff, if_true, if_false, t5, wrap_i64]) | (refine SLK_go ?_; simp (config := { maxSteps := 2000000 }) (disch := first | omega | rfl) only [sD, sA, Nat.reduceEqDiff, Nat.reduceAdd, if_true, if_false, e6, e7, isAlloc, isRead]))
        exact ⟨L.length - (i + 1), by omega, _, _, i + 1, v2, _, rfl, rfl, by omega, (by first | (simp only [Tr.get_put, reduceCtorEq, if_false, t0]; rfl) | simp only [Tr.get_put, reduceCtorEq, if_false, t0]), (by first | (simp only [Tr.get_put, Nat.reduceEqDiff, if_false, t3]; rfl) | simp only [Tr.get_put, Nat.reduceEqDiff, if_false, t3]), (by first | (simp only [Tr.get_put, Nat.reduceEqDiff, if_true, if_false]; rfl) | simp only [Tr.get_put, Nat.reduceEqDiff, if_true, if_false]), (by first | (simp only [sA, Nat.reduceEqDiff, if_true, if_false]; rfl) | simp only []), by rw [← List.take_append_getElem hlt]; exact hb7, fun n hn => ⟨by have := hx'.next; omega, by omega⟩, hx7⟩
      · repeat' (first | refine EvC.seq ?_ | refine EvC.scope ?_ | refine EvC.block ?_ | (refine EvC.skip ?_) | (refine EvC.exit ?_; try simp only [sA, reduceCtorEq, if_true]) | (refine EvC.ret ?_; try simp only [thenC_ret, inBlock_ret]) | (refine EvC.reg ?_; simp (config := { maxSteps := 2000000 }) (disch := first | omega | rfl) only [sA, Nat.reduceEqDiff, if_true, if_false, ln46, t3, t5, decn hlt]) | (refine EvC.condT ?_ ?_; simp (config := { maxSteps := 2000000 }) (disch := first | omega | rfl) only [sA, Nat.reduceEqDiff, if_true, if_false]; refine EvC_go ?_) | (refine EvC.condF ?_ ?_; simp (config := { maxSteps := 2000000 }) (disch := first | omega | rfl) only [sA, Nat.reduceEqDiff, if_true, if_false]; refine EvC_go ?_))
        rw [List.take_of_length_le (by omega)] at hb
        exact ⟨_, _, vb, S, rfl, (by first | (simp only [Tr.get_put, reduceCtorEq, if_false, t0]; rfl) | simp only [Tr.get_put, reduceCtorEq, if_false, t0]), (by first | (simp only [Tr.get_put, Nat.reduceEqDiff, if_false, t4]; rfl) | simp only [Tr.get_put, Nat.reduceEqDiff, if_false, t4]), hb, hx1.trans hx'⟩
    · exact ⟨_, _, 0, .slice none 0 0, fun _ => False, rfl, rfl, by omega, (by first | (simp only [Tr.get_put, reduceCtorEq, if_true, if_false]; rfl) | simp only [Tr.get_put, reduceCtorEq, if_true, if_false]), (by first | (simp only [Tr.get_put, Nat.reduceEqDiff, reduceCtorEq, if_true, if_false]; rfl) | simp only [Tr.get_put, Nat.reduceEqDiff, reduceCtorEq, if_true, if_false]), (by first | (simp only [Tr.get_put, Nat.reduceEqDiff, reduceCtorEq, if_true, if_false]; rfl) | simp only [Tr.get_put, Nat.reduceEqDiff, reduceCtorEq, if_true, if_false]), (by first | (simp only [sA, Nat.reduceEqDiff, reduceCtorEq, if_true, if_false]; rfl) | simp only []), .inl ⟨by simp, rfl⟩, fun n h => h.elim, HX.refl hx1.wf⟩
  rintro st ⟨tm, H5, vb, S, rfl, t0, t4, hb5, hx5⟩
  obtain ⟨ab, cb, rfl, hbs⟩ := hb5.rep hLl
  repeat' (first | refine EvC.seq ?_ | refine EvC.scope ?_ | refine EvC.block ?_ | (refine EvC.skip ?_) | (refine EvC.exit ?_) | (refine EvC.ret ?_; try simp only [thenC_ret, inBlock_ret]) | (refine EvC.reg ?_; simp (config := { maxSteps := 2000000 }) (disch := first | omega | rfl) only [sA]))
  have hmax5 : ∀ n ∈ occL l, True := fun _ _ => trivial
  have few : ∀ {t : Tm}, Fine t → Few 1000000 t := fun {t} h => (Fine.few _ (Nat.lt_succ_self _) h).up (by omega)
  have hfewσ : ∀ n, Few 1000000 (varT (plcZ L n)) := fun n => few (var_fine (plc_bound L n).1)
  refine EvC.loop (fun k st => ∃ tm H' i ar cr, st = ⟨tm, [], H'⟩ ∧ k = l.length - i ∧ i ≤ l.length ∧ tm.get 0 = some (.slice a l.length c) ∧ tm.get 4 = some (.slice ab (bndsB L 0).length cb) ∧ tm.get 6 = some (.slice ar i cr) ∧ tm.get 7 = some (.int .i64 (i : Nat)) ∧
      FL H' 26 (Rg H5.next H'.next) ((l.take i).map (sub fun n => varT (plcZ L n))) ar cr ∧ HX H5 H') ?_ l.length _ ?_
  · rintro k st ⟨tm, G, i, ar, cr, rfl, rfl, hi, t0, t4, t6, t7, hfl, hxG⟩
    have hxHG := hx5.trans hxG
    by_cases hlt : i < l.length
    · obtain ⟨b, o, a1, c1, rfl, hld, hr1⟩ := rl.el hlt
      have hld1 := hxHG.load hw hld
      repeat' (first | refine EvC.seq ?_ | refine EvC.scope ?_ | refine EvC.block ?_ | (refine EvC.skip ?_; try simp only [thenC_normal]) | (refine EvC.exit ?_) | (refine EvC.ret ?_; try simp only [thenC_ret, inBlock_ret]) | (refine EvC.reg ?_; simp (config := { maxSteps := 2000000 }) (disch := first | omega | rfl) only [sA, Nat.reduceEqDiff, Nat.reduceAdd, Value.cells, reduceCtorEq, if_true, if_false, layC, ln24, ia24, ld26, cl65, bs24_1, t0, t4, t6, t7, decl hlt, hld1]) | (refine EvC.condT ?_ ?_; simp (config := { maxSteps := 2000000 }) (disch := first | omega | rfl) only [sA, Nat.reduceEqDiff, if_true, if_false]; refine EvC_go ?_))
      refine (inst_ev (σ := fun n => varT (plcZ L n)) hfewσ (Nat.lt_succ_self _) (hr1.mono hxHG hw) (few (hf _ (List.getElem_mem _))) (hbs.mono hxG hx5.wf) (fun n hn => ?_) hxG.wf).mono ?_
      · obtain ⟨p, h1, h2⟩ := bndsB_find L 0 (hmem _ (List.getElem_mem hlt) n hn)
        exact ⟨p, h1, by rw [h2]; simp⟩
      rintro v H6 ⟨cs', rfl, ⟨a2, c2, rfl, hb2, hf2⟩, hx6⟩
      have n6 := hx6.next
      repeat' (first | refine EvC.seq ?_ | refine EvC.scope ?_ | refine EvC.block ?_ | (refine EvC.skip ?_) | (refine EvC.exit ?_) | (refine EvC.ret ?_; try simp only [thenC_ret, inBlock_ret]) | (refine LX_go ?_; simp (config := { maxSteps := 2000000 }) (disch := first | omega | rfl) only [sA, Nat.reduceEqDiff, Nat.reduceAdd, one, if_true, if_false]))
      obtain ⟨H7, e7, hx7, g7, hn7, hw7⟩ := new1 hx6.wf (.row (six (sub (fun n => varT (plcZ L n)) l[i]) a2 c2) 26)
      simp only [e7]
      have hx67 := hx6.trans hx7
      have etl : ((l.take i).map (sub fun n => varT (plcZ L n))).length = i := by rw [List.length_map, List.length_take]; omega
      obtain ⟨H8, e8, hf8, hk8, hn8⟩ := FL.push (S2 := Rg H5.next (H7.next + 1)) (c1 := 1) ean (hfl.keep hx67 hxG.wf) hw7 (row6 g7).2.2.2.2.2.2 (hf2.keep hx7 hx6.wf) hb2 (fun n hn hs => by have := hn.1; have := hs.2; omega) (fun n hn => by have := hn.2; omega) (fun n hn => by have := hn.2; omega)
        (by rw [etl]; omega) (fun n hn => by
          rcases hn with hn | hn | hn
          · exact ⟨hn.1, by have := hn.2; omega⟩
          · exact ⟨by have := hn.1; have := hxG.next; omega, by have := hn.2; omega⟩
          · exact ⟨by have := hxG.next; omega, by omega⟩)
      rw [etl] at e8 hf8
      have hx8 : HX H5 H8 := (hxG.trans hx67).then hk8 fun n hn hs => by have := hs.1; omega
      repeat' (first | refine EvC.seq ?_ | refine EvC.scope ?_ | refine EvC.block ?_ | (refine EvC.skip ?_) | (refine EvC.exit ?_) | (refine EvC.ret ?_; try simp only [thenC_ret, inBlock_ret]) | (refine EvC.reg ?_; simp (config := { maxSteps := 2000000 }) (disch := first | omega | rfl) only [sA, Nat.reduceEqDiff, if_true, if_false, t7, wrap_i64]) | (refine LX_go ?_; simp (config := { maxSteps := 2000000 }) (disch := first | omega | rfl) only [sA, Nat.reduceEqDiff, if_true, if_false, e8]))
      have et : (l.take (i + 1)).map (sub fun n => varT (plcZ L n)) = (l.take i).map (sub fun n => varT (plcZ L n)) ++ [sub (fun n => varT (plcZ L n)) l[i]] := by rw [← List.take_append_getElem hlt, List.map_append]; rfl
      exact ⟨l.length - (i + 1), by omega, _, _, i + 1, some ⟨H7.next, 0, none⟩, i + 1, rfl, rfl, by omega, (by first | (simp only [Tr.get_put, reduceCtorEq, if_false, t0]; rfl) | simp only [Tr.get_put, reduceCtorEq, if_false, t0]), (by first | (simp only [Tr.get_put, Nat.reduceEqDiff, if_false, t4]; rfl) | simp only [Tr.get_put, Nat.reduceEqDiff, if_false, t4]), (by first | (simp only [Tr.get_put, Nat.reduceEqDiff, if_true, if_false]; rfl) | simp only [Tr.get_put, Nat.reduceEqDiff, if_true, if_false]), (by first | (simp only [sA, Nat.reduceEqDiff, if_true, if_false]; rfl) | simp only []), by rw [et, hn8]; exact hf8, hx8⟩
    · repeat' (first | refine EvC.seq ?_ | refine EvC.scope ?_ | refine EvC.block ?_ | (refine EvC.skip ?_) | (refine EvC.exit ?_; try simp only [sA, if_true]) | (refine EvC.ret ?_; try simp only [thenC_ret, inBlock_ret]) | (refine EvC.reg ?_; simp (config := { maxSteps := 2000000 }) (disch := first | omega | rfl) only [sA, Nat.reduceEqDiff, reduceCtorEq, if_true, if_false, ln24, t0, t6, t7, decn hlt]) | (refine EvC.condT ?_ ?_; simp (config := { maxSteps := 2000000 }) (disch := first | omega | rfl) only [sA, Nat.reduceEqDiff, if_true, if_false]; refine EvC_go ?_) | (refine EvC.condF ?_ ?_; simp (config := { maxSteps := 2000000 }) (disch := first | omega | rfl) only [sA, Nat.reduceEqDiff, if_true, if_false]; refine EvC_go ?_))
      have hi' : i = l.length := by omega
      rw [hi', List.take_of_length_le (Nat.le_refl _)] at hfl
      refine leave_one rfl (by first | (simp only [sA, Nat.reduceEqDiff, if_true, if_false]; rfl) | simp only []) ⟨ar, cr, by rw [List.length_map, hi'], hfl.sub fun n hn => ⟨by have := hx5.next; have := hn.1; omega, hn.2⟩, hxHG⟩
  · exact ⟨_, _, 0, none, 0, rfl, rfl, by omega, (by first | (simp only [Tr.get_put, reduceCtorEq, if_false, t0]; rfl) | simp only [Tr.get_put, reduceCtorEq, if_false, t0]), (by first | (simp only [Tr.get_put, Nat.reduceEqDiff, if_false, t4]; rfl) | simp only [Tr.get_put, Nat.reduceEqDiff, if_false, t4]), (by first | (simp only [Tr.get_put, Nat.reduceEqDiff, if_true, if_false]; rfl) | simp only [Tr.get_put, Nat.reduceEqDiff, if_true, if_false]), (by first | (simp only [sA, Nat.reduceEqDiff, if_true, if_false]; rfl) | simp only []), .nil _, HX.refl hx5.wf⟩
end Go.Proofs.YtlllbkjiadcloaaDoor.hb
end

-- Nd
section
/- All nodes of a term, counted plainly. -/
namespace Go.Proofs.YtlllbkjiadcloaaDoor.hb
open Go Go.RowKit Go.Hb
/-- all nodes -/
def nd : Tm → Nat
  | .mk _ _ _ _ _ l => 1 + ndL l
where ndL : List Tm → Nat
  | [] => 0
  | t :: l => nd t + ndL l
theorem nd_args (t : Tm) : nd t = 1 + nd.ndL t.args := by obtain ⟨k, s, u, b, v, l⟩ := t; rw [nd]; rfl
theorem cntL_mono : ∀ (l : List Tm), (∀ t ∈ l, ∀ n, n ≤ cnt t n) → ∀ n, n ≤ cntL l n
  | [], _, n => by rw [cntL]; exact Nat.le_refl _
  | t :: l, h, n => by
    rw [cntL]
    split
    · exact Nat.le_refl _
    · exact Nat.le_trans (h t (by simp) n) (cntL_mono l (fun u hu => h u (List.mem_cons_of_mem _ hu)) _)
theorem cnt_mono : ∀ (m : Nat) (t : Tm), SizeOf.sizeOf t < m → ∀ n, n + 1 ≤ cnt t n
  | 0, _, h, _ => by omega
  | m + 1, t, h, n => by
    rw [cnt_args]
    exact cntL_mono _ (fun u hu k => by have := cnt_mono m u (by have := mem_args_size hu; omega) k; omega) _
theorem cntL_nd : ∀ (l : List Tm), (∀ t ∈ l, ∀ n, cnt t n ≤ 4000 → cnt t n = n + nd t) → ∀ n, cntL l n ≤ 4000 → cntL l n = n + nd.ndL l
  | [], _, n, _ => by rw [cntL, nd.ndL]; rfl
  | t :: l, h, n, hn => by
    rw [cntL] at hn ⊢
    split at hn
    · omega
    · rename_i h4
      rw [if_neg h4]
      have hm : cnt t n ≤ cntL l (cnt t n) := cntL_mono l (fun u _ k => by have := cnt_mono _ u (Nat.lt_succ_self _) k; omega) _
      rw [cntL_nd l (fun u hu => h u (List.mem_cons_of_mem _ hu)) _ hn, h t (by simp) n (by omega), nd.ndL]
      omega
theorem cnt_nd : ∀ (m : Nat) (t : Tm), SizeOf.sizeOf t < m → ∀ n, cnt t n ≤ 4000 → cnt t n = n + nd t
  | 0, _, h, _, _ => by omega
  | m + 1, t, h, n, hn => by
    rw [cnt_args] at hn ⊢
    rw [cntL_nd _ (fun u hu k => cnt_nd m u (by have := mem_args_size hu; omega) k) _ hn, nd_args]; omega
end Go.Proofs.YtlllbkjiadcloaaDoor.hb
end

-- Z1
section
/- The orders: the small comparisons, on both sides. -/
namespace Go.Proofs.YtlllbkjiadcloaaDoor.hb
open Go Go.RowKit Go.Hb
variable {ok : Ok}
set_option maxRecDepth 10000
attribute [local irreducible] LX LG EL STG SOP SGO SGD SAL SRD SEF SEG SLK SCK ES

def cmpZ (a b : Int) : Int := if a < b then -1 else if b < a then 1 else 0
def lessS (a b : ByteArray) : Bool := Op.bytesLess a.toList b.toList
def cmpS (a b : ByteArray) : Int := if lessS a b then -1 else if lessS b a then 1 else 0
theorem less_total : ∀ {a b : List UInt8}, Op.bytesLess a b = false → (a == b) = false → Op.bytesLess b a = true
  | [], [], _, h => by simp at h
  | [], _ :: _, h, _ => by simp [Op.bytesLess] at h
  | _ :: _, [], _, _ => by simp [Op.bytesLess]
  | x :: a, y :: b, h, e => by
      simp only [Op.bytesLess] at h ⊢
      rw [Bool.or_eq_false_iff] at h
      have h1 : ¬ x < y := of_decide_eq_false h.1
      by_cases hxy : x = y
      · subst hxy
        have h2 : Op.bytesLess a b = false := by simpa using h.2
        have e2 : (a == b) = false := by simpa using e
        rw [less_total h2 e2]; simp
      · have h3 : y < x := by
          rw [UInt8.lt_iff_toNat_lt] at h1 ⊢
          have : x.toNat ≠ y.toNat := fun q => hxy (UInt8.toNat_inj.1 q)
          omega
        simp [h3]
theorem cmpZ_lt {a b : Int} (h : a < b) : cmpZ a b = -1 := by simp [cmpZ, h]
theorem cmpZ_gt {a b : Int} (h : b < a) : cmpZ a b = 1 := by
  have : ¬ a < b := by omega
  simp [cmpZ, h, this]
theorem cmpZ_eq {a b : Int} (h : a = b) : cmpZ a b = 0 := by subst h; simp [cmpZ]

theorem cmpS_lt {a b : ByteArray} (h : Op.bytesLess a.toList b.toList = true) : cmpS a b = -1 := by simp [cmpS, lessS, h]
theorem cmpS_eq {a b : ByteArray} (h : Op.bytesLess a.toList b.toList = false) (e : (a.toList == b.toList) = true) : cmpS a b = 0 := by
  have e' := beq_iff_eq.1 e
  rw [← e'] at h
  unfold cmpS lessS
  rw [← e', h]
  rfl
theorem cmpS_gt {a b : ByteArray} (h : Op.bytesLess a.toList b.toList = false) (e : (a.toList == b.toList) = false) : cmpS a b = 1 := by
  have := less_total h e
  unfold cmpS lessS
  rw [h, this]
  rfl

-- cmp.isNaN[int]
theorem nanI_ev {a : Int} {H : Heap} : EvF Tryd.prog okT 99 [.int .i64 a] H fun v H' => v = .bool false ∧ H' = H := by
  refine EvF.enter rfl Tryd.func99 (by decide) rfl ?_
  repeat' (first | refine EvC.seq ?_ | refine EvC.scope ?_ | refine EvC.block ?_ | (refine EvC.skip ?_) | (refine EvC.exit ?_) | (refine EvC.ret ?_; try simp only [thenC_ret, inBlock_ret]) | (refine EvC.reg ?_; simp (config := { maxSteps := 2000000 }) (disch := first | omega | rfl) only [sA, initTm, Nat.reduceEqDiff, reduceCtorEq, if_true, if_false, ine_f]))
  exact leave_one rfl (by first | (simp only [Tr.get_put, Nat.reduceEqDiff, reduceCtorEq, if_true, if_false]; rfl) | simp only [Tr.get_put, Nat.reduceEqDiff, reduceCtorEq, if_true, if_false]) ⟨rfl, rfl⟩

-- cmp.Compare[int]
theorem cmpI_ev {a b : Int} {H : Heap} : EvF Tryd.prog okT 83 [.int .i64 a, .int .i64 b] H fun v H' => v = .int .i64 (cmpZ a b) ∧ H' = H := by
  refine EvF.enter rfl Tryd.func83 (by decide) rfl ?_
  repeat' (first | refine EvC.seq ?_ | refine EvC.scope ?_ | refine EvC.block ?_ | (refine EvC.skip ?_) | (refine EvC.exit ?_) | (refine EvC.ret ?_; try simp only [thenC_ret, inBlock_ret]) | (refine EvC.reg ?_; simp (config := { maxSteps := 2000000 }) (disch := first | omega | rfl) only [sA, initTm, Nat.reduceEqDiff, reduceCtorEq, if_true, if_false, cl99]))
  refine nanI_ev.mono ?_
  rintro v H1 ⟨rfl, rfl⟩
  repeat' (first | refine EvC.seq ?_ | refine EvC.scope ?_ | refine EvC.block ?_ | (refine EvC.skip ?_) | (refine EvC.exit ?_) | (refine EvC.ret ?_; try simp only [thenC_ret, inBlock_ret]) | (refine EvC.reg ?_; simp (config := { maxSteps := 2000000 }) (disch := first | omega | rfl) only [sA, Nat.reduceEqDiff, reduceCtorEq, if_true, if_false, cl99]))
  refine nanI_ev.mono ?_
  rintro v H2 ⟨rfl, rfl⟩
  by_cases h1 : a < b
  · repeat' (first | refine EvC.seq ?_ | refine EvC.scope ?_ | refine EvC.block ?_ | (refine EvC.skip ?_; try simp only [thenC_normal]) | (refine EvC.exit ?_) | (refine EvC.ret ?_; try simp only [thenC_ret, inBlock_ret]) | (refine EvC.reg ?_; simp (config := { maxSteps := 2000000 }) (disch := first | omega | rfl) only [sA, Nat.reduceEqDiff, reduceCtorEq, if_true, if_false, decide_eq_true]) | (refine EvC.condT ?_ ?_; simp (config := { maxSteps := 2000000 }) (disch := first | omega | rfl) only [sA, Nat.reduceEqDiff, reduceCtorEq, if_true, if_false]; refine EvC_go ?_) | (refine EvC.condF ?_ ?_; simp (config := { maxSteps := 2000000 }) (disch := first | omega | rfl) only [sA, Nat.reduceEqDiff, reduceCtorEq, if_true, if_false]; refine EvC_go ?_))
    exact leave_one rfl (by first | (simp only [sA, Nat.reduceEqDiff, reduceCtorEq, if_true, if_false]; rfl) | simp only []) ⟨by rw [cmpZ_lt h1], rfl⟩
  · by_cases h2 : b < a
    · repeat' (first | refine EvC.seq ?_ | refine EvC.scope ?_ | refine EvC.block ?_ | (refine EvC.skip ?_; try simp only [thenC_normal]) | (refine EvC.exit ?_) | (refine EvC.ret ?_; try simp only [thenC_ret, inBlock_ret]) | (refine EvC.reg ?_; simp (config := { maxSteps := 2000000 }) (disch := first | omega | rfl) only [sA, Nat.reduceEqDiff, reduceCtorEq, if_true, if_false, decide_eq_true, decide_eq_false]) | (refine EvC.condT ?_ ?_; simp (config := { maxSteps := 2000000 }) (disch := first | omega | rfl) only [sA, Nat.reduceEqDiff, reduceCtorEq, if_true, if_false]; refine EvC_go ?_) | (refine EvC.condF ?_ ?_; simp (config := { maxSteps := 2000000 }) (disch := first | omega | rfl) only [sA, Nat.reduceEqDiff, reduceCtorEq, if_true, if_false]; refine EvC_go ?_))
      exact leave_one rfl (by first | (simp only [sA, Nat.reduceEqDiff, reduceCtorEq, if_true, if_false]; rfl) | simp only []) ⟨by rw [cmpZ_gt h2], rfl⟩
    · repeat' (first | refine EvC.seq ?_ | refine EvC.scope ?_ | refine EvC.block ?_ | (refine EvC.skip ?_; try simp only [thenC_normal]) | (refine EvC.exit ?_) | (refine EvC.ret ?_; try simp only [thenC_ret, inBlock_ret]) | (refine EvC.reg ?_; simp (config := { maxSteps := 2000000 }) (disch := first | omega | rfl) only [sA, Nat.reduceEqDiff, reduceCtorEq, if_true, if_false, decide_eq_false]) | (refine EvC.condT ?_ ?_; simp (config := { maxSteps := 2000000 }) (disch := first | omega | rfl) only [sA, Nat.reduceEqDiff, reduceCtorEq, if_true, if_false]; refine EvC_go ?_) | (refine EvC.condF ?_ ?_; simp (config := { maxSteps := 2000000 }) (disch := first | omega | rfl) only [sA, Nat.reduceEqDiff, reduceCtorEq, if_true, if_false]; refine EvC_go ?_))
      exact leave_one rfl (by first | (simp only [sA, Nat.reduceEqDiff, reduceCtorEq, if_true, if_false]; rfl) | simp only []) ⟨by rw [cmpZ_eq (by omega)], rfl⟩

-- cmp.isNaN[string]
theorem nanS_ev {a : ByteArray} {H : Heap} : EvF Tryd.prog okT 110 [.string a] H fun v H' => v = .bool false ∧ H' = H := by
  refine EvF.enter rfl Tryd.func110 (by decide) rfl ?_
  have e : (a.toList == a.toList) = true := beq_self_eq_true _
  repeat' (first | refine EvC.seq ?_ | refine EvC.scope ?_ | refine EvC.block ?_ | (refine EvC.skip ?_) | (refine EvC.exit ?_) | (refine EvC.ret ?_; try simp only [thenC_ret, inBlock_ret]) | (refine EvC.reg ?_; simp (config := { maxSteps := 2000000 }) (disch := first | omega | rfl) only [sA, initTm, Nat.reduceEqDiff, reduceCtorEq, if_true, if_false, dBin_neqS, e, Bool.not_true]))
  exact leave_one rfl (by first | (simp only [Tr.get_put, Nat.reduceEqDiff, reduceCtorEq, if_true, if_false]; rfl) | simp only [Tr.get_put, Nat.reduceEqDiff, reduceCtorEq, if_true, if_false]) ⟨rfl, rfl⟩

-- cmp.Compare[string]
theorem cmpS_ev {a b : ByteArray} {H : Heap} : EvF Tryd.prog okT 91 [.string a, .string b] H fun v H' => v = .int .i64 (cmpS a b) ∧ H' = H := by
  refine EvF.enter rfl Tryd.func91 (by decide) rfl ?_
  repeat' (first | refine EvC.seq ?_ | refine EvC.scope ?_ | refine EvC.block ?_ | (refine EvC.skip ?_) | (refine EvC.exit ?_) | (refine EvC.ret ?_; try simp only [thenC_ret, inBlock_ret]) | (refine EvC.reg ?_; simp (config := { maxSteps := 2000000 }) (disch := first | omega | rfl) only [sA, initTm, Nat.reduceEqDiff, reduceCtorEq, if_true, if_false, cl110]))
  refine nanS_ev.mono ?_
  rintro v H1 ⟨rfl, rfl⟩
  repeat' (first | refine EvC.seq ?_ | refine EvC.scope ?_ | refine EvC.block ?_ | (refine EvC.skip ?_) | (refine EvC.exit ?_) | (refine EvC.ret ?_; try simp only [thenC_ret, inBlock_ret]) | (refine EvC.reg ?_; simp (config := { maxSteps := 2000000 }) (disch := first | omega | rfl) only [sA, Nat.reduceEqDiff, reduceCtorEq, if_true, if_false, cl110]))
  refine nanS_ev.mono ?_
  rintro v H2 ⟨rfl, rfl⟩
  cases h1 : Op.bytesLess a.toList b.toList
  · cases h2 : a.toList == b.toList
    · repeat' (first | refine EvC.seq ?_ | refine EvC.scope ?_ | refine EvC.block ?_ | (refine EvC.skip ?_; try simp only [thenC_normal]) | (refine EvC.exit ?_) | (refine EvC.ret ?_; try simp only [thenC_ret, inBlock_ret]) | (refine EvC.reg ?_; simp (config := { maxSteps := 2000000 }) (disch := first | omega | rfl) only [sA, Nat.reduceEqDiff, reduceCtorEq, if_true, if_false, bLssS, bGtrS, h1, h2, Bool.or_self, Bool.not_false]) | (refine EvC.condT ?_ ?_; simp (config := { maxSteps := 2000000 }) (disch := first | omega | rfl) only [sA, Nat.reduceEqDiff, reduceCtorEq, if_true, if_false]; refine EvC_go ?_) | (refine EvC.condF ?_ ?_; simp (config := { maxSteps := 2000000 }) (disch := first | omega | rfl) only [sA, Nat.reduceEqDiff, reduceCtorEq, if_true, if_false]; refine EvC_go ?_))
      exact leave_one rfl (by first | (simp only [sA, Nat.reduceEqDiff, reduceCtorEq, if_true, if_false]; rfl) | simp only []) ⟨by rw [cmpS_gt h1 h2], rfl⟩
    · repeat' (first | refine EvC.seq ?_ | refine EvC.scope ?_ | refine EvC.block ?_ | (refine EvC.skip ?_; try simp only [thenC_normal]) | (refine EvC.exit ?_) | (refine EvC.ret ?_; try simp only [thenC_ret, inBlock_ret]) | (refine EvC.reg ?_; simp (config := { maxSteps := 2000000 }) (disch := first | omega | rfl) only [sA, Nat.reduceEqDiff, reduceCtorEq, if_true, if_false, bLssS, bGtrS, h1, h2, Bool.false_or, Bool.not_true]) | (refine EvC.condT ?_ ?_; simp (config := { maxSteps := 2000000 }) (disch := first | omega | rfl) only [sA, Nat.reduceEqDiff, reduceCtorEq, if_true, if_false]; refine EvC_go ?_) | (refine EvC.condF ?_ ?_; simp (config := { maxSteps := 2000000 }) (disch := first | omega | rfl) only [sA, Nat.reduceEqDiff, reduceCtorEq, if_true, if_false]; refine EvC_go ?_))
      exact leave_one rfl (by first | (simp only [sA, Nat.reduceEqDiff, reduceCtorEq, if_true, if_false]; rfl) | simp only []) ⟨by rw [cmpS_eq h1 h2], rfl⟩
  · repeat' (first | refine EvC.seq ?_ | refine EvC.scope ?_ | refine EvC.block ?_ | (refine EvC.skip ?_; try simp only [thenC_normal]) | (refine EvC.exit ?_) | (refine EvC.ret ?_; try simp only [thenC_ret, inBlock_ret]) | (refine EvC.reg ?_; simp (config := { maxSteps := 2000000 }) (disch := first | omega | rfl) only [sA, Nat.reduceEqDiff, reduceCtorEq, if_true, if_false, bLssS, h1]) | (refine EvC.condT ?_ ?_; simp (config := { maxSteps := 2000000 }) (disch := first | omega | rfl) only [sA, Nat.reduceEqDiff, reduceCtorEq, if_true, if_false]; refine EvC_go ?_) | (refine EvC.condF ?_ ?_; simp (config := { maxSteps := 2000000 }) (disch := first | omega | rfl) only [sA, Nat.reduceEqDiff, reduceCtorEq, if_true, if_false]; refine EvC_go ?_))
    exact leave_one rfl (by first | (simp only [sA, Nat.reduceEqDiff, reduceCtorEq, if_true, if_false]; rfl) | simp only []) ⟨by rw [cmpS_lt h1], rfl⟩

-- hornbeamref02.sign
end Go.Proofs.YtlllbkjiadcloaaDoor.hb
end

-- Z2
section
/- The orders: the first that is not 0, the places of kinds, a sign ahead. -/
namespace Go.Proofs.YtlllbkjiadcloaaDoor.hb
open Go Go.RowKit Go.Hb
variable {ok : Ok}
set_option maxRecDepth 10000
attribute [local irreducible] LX LG EL STG SOP SGO SGD SAL SRD SEF SEG SLK SCK ES

-- cmp.Or[int]
set_option maxHeartbeats 2000000 in
theorem or_ev {x y : Int} {c p : Nat} {H : Heap} (h0 : H.load ⟨p, 0, none⟩ 1 = some [.int .i64 x]) (h1 : H.load ⟨p, 1, none⟩ 1 = some [.int .i64 y]) :
    EvF Tryd.prog okT 90 [.slice (some ⟨p, 0, none⟩) 2 c] H fun v H' => v = .int .i64 (orZ x y) ∧ H' = H := by
  refine EvF.enter rfl Tryd.func90 (by decide) rfl ?_
  repeat' (first | refine EvC.seq ?_ | refine EvC.scope ?_ | refine EvC.block ?_ | (refine EvC.skip ?_) | (refine EvC.exit ?_) | (refine EvC.ret ?_; try simp only [thenC_ret, inBlock_ret]) | (refine EvC.reg ?_; simp (config := { maxSteps := 2000000 }) (disch := first | omega | rfl) only [sA, initTm, Nat.reduceEqDiff, reduceCtorEq, if_true, if_false, ln46]))
  refine EvC.loop (fun k st => ∃ tm i, st = ⟨tm, [], H⟩ ∧ k = 2 - i ∧ i ≤ 2 ∧ (0 < i → x = 0) ∧ (1 < i → y = 0) ∧ tm.get 3 = some (.int .i64 0) ∧ tm.get 6 = some (.slice (some ⟨p, 0, none⟩) 2 c) ∧ tm.get 7 = some (.int .i64 (2 : Nat)) ∧ tm.get 8 = some (.int .i64 (i : Nat))) ?_ 2 _ ?_
  · rintro k st ⟨tm, i, rfl, rfl, hi, hx, hy, g3, g6, g7, g8⟩
    by_cases h2 : i = 2
    · subst h2
      repeat' (first | refine EvC.seq ?_ | refine EvC.scope ?_ | refine EvC.block ?_ | (refine EvC.skip ?_) | (refine EvC.exit ?_; try simp only [sA, if_true]) | (refine EvC.ret ?_; try simp only [thenC_ret, inBlock_ret]) | (refine EvC.reg ?_; simp (config := { maxSteps := 2000000 }) (disch := first | omega | rfl) only [sA, Nat.reduceEqDiff, if_true, if_false, g3, g7, g8, decide_eq_false]) | (refine EvC.condT ?_ ?_; simp (config := { maxSteps := 2000000 }) (disch := first | omega | rfl) only [sA, if_true]; refine EvC_go ?_) | (refine EvC.condF ?_ ?_; simp (config := { maxSteps := 2000000 }) (disch := first | omega | rfl) only [sA, if_true]; refine EvC_go ?_))
      exact leave_one rfl (by first | (simp only [sA, Nat.reduceEqDiff, if_true, if_false]; rfl) | simp only []) ⟨by simp [orZ, hx, hy], rfl⟩
    · have hl : ∃ z, H.load ⟨p, i, none⟩ 1 = some [.int .i64 z] ∧ z = if i = 0 then x else y := by
        by_cases h0' : i = 0
        · subst h0'; exact ⟨x, h0, rfl⟩
        · have : i = 1 := by omega
          subst this; exact ⟨y, h1, rfl⟩
      obtain ⟨z, hl, hz⟩ := hl
      by_cases hz0 : z = 0
      · repeat' (first | refine EvC.seq ?_ | refine EvC.scope ?_ | refine EvC.block ?_ | (refine EvC.skip ?_; try simp only [sA]) | (refine EvC.exit ?_) | (refine EvC.ret ?_; try simp only [thenC_ret, inBlock_ret]) | (refine EvC.reg ?_; simp (config := { maxSteps := 2000000 }) (disch := first | omega | rfl) only [sA, Nat.reduceEqDiff, if_true, if_false, ia46, ld3, g3, g6, g7, g8, hl, ine_f hz0, decide_eq_true, wrap_i64]) | (refine EvC.condT ?_ ?_; simp (config := { maxSteps := 2000000 }) (disch := first | omega | rfl) only [sA, Nat.reduceEqDiff, if_true, if_false]; refine EvC_go ?_) | (refine EvC.condF ?_ ?_; simp (config := { maxSteps := 2000000 }) (disch := first | omega | rfl) only [sA, Nat.reduceEqDiff, if_true, if_false]; refine EvC_go ?_))
        exact ⟨2 - (i + 1), by omega, _, i + 1, rfl, rfl, by omega, fun _ => by
          by_cases h0' : i = 0
          · rw [hz, if_pos h0'] at hz0; exact hz0
          · exact hx (by omega), fun h => by
          rw [hz, if_neg (by omega)] at hz0; exact hz0, (by first | (simp only [Tr.get_put, Nat.reduceEqDiff, if_false, g3]; rfl) | simp only [Tr.get_put, Nat.reduceEqDiff, if_false, g3]), (by first | (simp only [Tr.get_put, Nat.reduceEqDiff, if_false, g6]; rfl) | simp only [Tr.get_put, Nat.reduceEqDiff, if_false, g6]), (by first | (simp only [Tr.get_put, Nat.reduceEqDiff, if_false, g7]; rfl) | simp only [Tr.get_put, Nat.reduceEqDiff, if_false, g7]), (by first | (simp only [sA, Nat.reduceEqDiff, if_true, if_false]; rfl) | simp only [])⟩
      · repeat' (first | refine EvC.seq ?_ | refine EvC.scope ?_ | refine EvC.block ?_ | (refine EvC.skip ?_; try simp only [thenC_normal]) | (refine EvC.exit ?_) | (refine EvC.ret ?_; try simp only [thenC_ret, inBlock_ret]) | (refine EvC.reg ?_; simp (config := { maxSteps := 2000000 }) (disch := first | omega | rfl) only [sA, Nat.reduceEqDiff, if_true, if_false, ia46, ld3, g3, g6, g7, g8, hl, ine_t hz0, decide_eq_true]) | (refine EvC.condT ?_ ?_; simp (config := { maxSteps := 2000000 }) (disch := first | omega | rfl) only [sA, Nat.reduceEqDiff, if_true, if_false]; refine EvC_go ?_))
        refine leave_one rfl (by first | (simp only [sA, Nat.reduceEqDiff, if_true, if_false]; rfl) | simp only []) ⟨?_, rfl⟩
        by_cases h0' : i = 0
        · rw [if_pos h0'] at hz; subst hz; simp [orZ, hz0]
        · rw [if_neg h0'] at hz; subst hz; simp [orZ, hx (by omega)]
  · exact ⟨_, 0, rfl, rfl, by omega, by omega, by omega, (by first | (simp only [Tr.get_put, Nat.reduceEqDiff, reduceCtorEq, if_true, if_false]; rfl) | simp only [Tr.get_put, Nat.reduceEqDiff, reduceCtorEq, if_true, if_false]), (by first | (simp only [Tr.get_put, Nat.reduceEqDiff, reduceCtorEq, if_true, if_false]; rfl) | simp only [Tr.get_put, Nat.reduceEqDiff, reduceCtorEq, if_true, if_false]), (by first | (simp only [Tr.get_put, Nat.reduceEqDiff, reduceCtorEq, if_true, if_false]; rfl) | simp only [Tr.get_put, Nat.reduceEqDiff, reduceCtorEq, if_true, if_false]), (by first | (simp only [sA, Nat.reduceEqDiff, reduceCtorEq, if_true, if_false]; rfl) | simp only [])⟩

def rankZ (k : Int) : Int := if k = 1 then 0 else if k = 4 then 1 else if k = 3 then 2 else if k = 2 then 3 else 4
-- term.rank
theorem rank_ev {k : Int} {H : Heap} : EvF Tryd.prog okT 86 [.int .i64 k] H fun v H' => v = .int .i64 (rankZ k) ∧ H' = H := by
  refine EvF.enter rfl Tryd.func86 (by decide) rfl ?_
  by_cases h1 : k = 1
  · repeat' (first | refine EvC.seq ?_ | refine EvC.scope ?_ | refine EvC.block ?_ | (refine EvC.skip ?_) | (refine EvC.exit ?_) | (refine EvC.ret ?_; try simp only [thenC_ret, inBlock_ret]) | (refine EvC.reg ?_; simp (config := { maxSteps := 2000000 }) (disch := first | omega | rfl) only [sA, initTm, Nat.reduceEqDiff, reduceCtorEq, if_true, if_false, ieq_t h1]) | (refine EvC.condT ?_ ?_; simp (config := { maxSteps := 2000000 }) (disch := first | omega | rfl) only [sA, Nat.reduceEqDiff, reduceCtorEq, if_true, if_false]; refine EvC_go ?_))
    exact leave_one rfl (by first | (simp only [sA, Nat.reduceEqDiff, reduceCtorEq, if_true, if_false]; rfl) | simp only []) ⟨by simp [rankZ, h1], rfl⟩
  by_cases h2 : k = 4
  · repeat' (first | refine EvC.seq ?_ | refine EvC.scope ?_ | refine EvC.block ?_ | (refine EvC.skip ?_) | (refine EvC.exit ?_) | (refine EvC.ret ?_; try simp only [thenC_ret, inBlock_ret]) | (refine EvC.reg ?_; simp (config := { maxSteps := 2000000 }) (disch := first | omega | rfl) only [sA, initTm, Nat.reduceEqDiff, reduceCtorEq, if_true, if_false, ieq_f h1, ieq_t h2]) | (refine EvC.condT ?_ ?_; simp (config := { maxSteps := 2000000 }) (disch := first | omega | rfl) only [sA, Nat.reduceEqDiff, reduceCtorEq, if_true, if_false]; refine EvC_go ?_) | (refine EvC.condF ?_ ?_; simp (config := { maxSteps := 2000000 }) (disch := first | omega | rfl) only [sA, Nat.reduceEqDiff, reduceCtorEq, if_true, if_false]; refine EvC_go ?_))
    exact leave_one rfl (by first | (simp only [sA, Nat.reduceEqDiff, reduceCtorEq, if_true, if_false]; rfl) | simp only []) ⟨by simp [rankZ, h2], rfl⟩
  by_cases h3 : k = 3
  · repeat' (first | refine EvC.seq ?_ | refine EvC.scope ?_ | refine EvC.block ?_ | (refine EvC.skip ?_) | (refine EvC.exit ?_) | (refine EvC.ret ?_; try simp only [thenC_ret, inBlock_ret]) | (refine EvC.reg ?_; simp (config := { maxSteps := 2000000 }) (disch := first | omega | rfl) only [sA, initTm, Nat.reduceEqDiff, reduceCtorEq, if_true, if_false, ieq_f h1, ieq_f h2, ieq_t h3]) | (refine EvC.condT ?_ ?_; simp (config := { maxSteps := 2000000 }) (disch := first | omega | rfl) only [sA, Nat.reduceEqDiff, reduceCtorEq, if_true, if_false]; refine EvC_go ?_) | (refine EvC.condF ?_ ?_; simp (config := { maxSteps := 2000000 }) (disch := first | omega | rfl) only [sA, Nat.reduceEqDiff, reduceCtorEq, if_true, if_false]; refine EvC_go ?_))
    exact leave_one rfl (by first | (simp only [sA, Nat.reduceEqDiff, reduceCtorEq, if_true, if_false]; rfl) | simp only []) ⟨by simp [rankZ, h3], rfl⟩
  by_cases h4 : k = 2
  · repeat' (first | refine EvC.seq ?_ | refine EvC.scope ?_ | refine EvC.block ?_ | (refine EvC.skip ?_) | (refine EvC.exit ?_) | (refine EvC.ret ?_; try simp only [thenC_ret, inBlock_ret]) | (refine EvC.reg ?_; simp (config := { maxSteps := 2000000 }) (disch := first | omega | rfl) only [sA, initTm, Nat.reduceEqDiff, reduceCtorEq, if_true, if_false, ieq_f h1, ieq_f h2, ieq_f h3, ieq_t h4]) | (refine EvC.condT ?_ ?_; simp (config := { maxSteps := 2000000 }) (disch := first | omega | rfl) only [sA, Nat.reduceEqDiff, reduceCtorEq, if_true, if_false]; refine EvC_go ?_) | (refine EvC.condF ?_ ?_; simp (config := { maxSteps := 2000000 }) (disch := first | omega | rfl) only [sA, Nat.reduceEqDiff, reduceCtorEq, if_true, if_false]; refine EvC_go ?_))
    exact leave_one rfl (by first | (simp only [sA, Nat.reduceEqDiff, reduceCtorEq, if_true, if_false]; rfl) | simp only []) ⟨by simp [rankZ, h4], rfl⟩
  repeat' (first | refine EvC.seq ?_ | refine EvC.scope ?_ | refine EvC.block ?_ | (refine EvC.skip ?_; try simp only [sA]) | (refine EvC.exit ?_) | (refine EvC.ret ?_; try simp only [thenC_ret, inBlock_ret]) | (refine EvC.reg ?_; simp (config := { maxSteps := 2000000 }) (disch := first | omega | rfl) only [sA, initTm, Nat.reduceEqDiff, reduceCtorEq, if_true, if_false, ieq_f h1, ieq_f h2, ieq_f h3, ieq_f h4]) | (refine EvC.condT ?_ ?_; simp (config := { maxSteps := 2000000 }) (disch := first | omega | rfl) only [sA, Nat.reduceEqDiff, reduceCtorEq, if_true, if_false]; refine EvC_go ?_) | (refine EvC.condF ?_ ?_; simp (config := { maxSteps := 2000000 }) (disch := first | omega | rfl) only [sA, Nat.reduceEqDiff, reduceCtorEq, if_true, if_false]; refine EvC_go ?_))
  exact leave_one rfl (by first | (simp only [sA, Nat.reduceEqDiff, reduceCtorEq, if_true, if_false]; rfl) | simp only []) ⟨by simp [rankZ, h1, h2, h3, h4], rfl⟩

-- hornbeamref02.rank
-- hornbeamref02.texts
end Go.Proofs.YtlllbkjiadcloaaDoor.hb
end

-- Z3
section
/- The orders: integers by their digits, on both sides. -/
namespace Go.Proofs.YtlllbkjiadcloaaDoor.hb
open Go Go.RowKit Go.Hb
variable {ok : Ok}
set_option maxRecDepth 10000
attribute [local irreducible] LX LG EL STG SOP SGO SGD SAL SRD SEF SEG SLK SCK ES

def numZ (a b : ByteArray) : Int :=
  if negS (bl a) && !negS (bl b) then -1 else if negS (bl b) && !negS (bl a) then 1
  else if negS (bl a) then -(orZ (cmpZ a.size b.size) (cmpS a b)) else orZ (cmpZ a.size b.size) (cmpS a b)
theorem cmpZ_range (a b : Int) : -1 ≤ cmpZ a b ∧ cmpZ a b ≤ 1 := by
  unfold cmpZ; split
  · omega
  · split <;> omega
theorem cmpS_range (a b : ByteArray) : -1 ≤ cmpS a b ∧ cmpS a b ≤ 1 := by
  unfold cmpS; split
  · omega
  · split <;> omega
theorem orZ_range {x y : Int} (h : -1 ≤ x ∧ x ≤ 1) (h' : -1 ≤ y ∧ y ≤ 1) : -1 ≤ orZ x y ∧ orZ x y ≤ 1 := by
  unfold orZ; split <;> assumption
theorem neg_one {s : ByteArray} (h : 1 ≤ s.size) : ((s.extract 0 1).data.toList == (⟨#[45]⟩ : ByteArray).data.toList) = negS (bl s) := by
  rw [ByteArray.data_extract, Array.toList_extract, List.extract_eq_take_drop]
  unfold negS bl
  have hs : 1 ≤ s.data.toList.length := by simpa using h
  cases hh : s.data.toList with
  | nil => rw [hh] at hs; simp at hs
  | cons u l =>
    simp only [List.drop_zero, Nat.sub_zero, List.take_succ_cons, List.take_zero, List.map_cons, List.head?_cons]
    by_cases hu : u = 45
    · subst hu; rfl
    · have h1 : ([u] == ([45] : List UInt8)) = false := by simp [hu]
      have h2 : (some u.toNat == some 45) = false := by
        simp only [Option.some_beq_some]
        exact beq_eq_false_iff_ne.2 fun q => hu (UInt8.toNat_inj.1 q)
      exact h1.trans h2.symm
theorem neg_none {s : ByteArray} (h : s.size = 0) : negS (bl s) = false := by
  have : s.data.toList = [] := List.length_eq_zero_iff.1 (by simpa using h)
  unfold negS bl; rw [this]; rfl

-- stringslite.HasPrefix
theorem prefixL_ev {s : ByteArray} {H : Heap} (hs : s.size ≤ maxLen) : EvF Tryd.prog okT 129 [.string s, .string ⟨#[45]⟩] H fun v H' => v = .bool (negS (bl s)) ∧ H' = H := by
  have one : (⟨#[45]⟩ : ByteArray).size = 1 := rfl
  refine EvF.enter rfl Tryd.func129 (by decide) rfl ?_
  by_cases h : 1 ≤ s.size
  · have hsl : dSl Tryd.prog 9 (.string s) none (some (.int .i64 (1 : Nat))) none H = some (.val (.string (s.extract 0 1)) H) := dSl_str_hi (m := 1) us9 h
    repeat' (first | refine EvC.seq ?_ | refine EvC.scope ?_ | refine EvC.block ?_ | (refine EvC.skip ?_) | (refine EvC.exit ?_) | (refine EvC.ret ?_; try simp only [thenC_ret, inBlock_ret]) | (refine EvC.reg ?_; simp (config := { maxSteps := 2000000 }) (disch := first | omega | rfl) only [sA, initTm, Nat.reduceEqDiff, reduceCtorEq, if_true, if_false, ln9, one, decide_eq_true, hsl, bEqS_data, neg_one h]))
    exact leave_one rfl (by first | (simp only [Tr.get_put, Nat.reduceEqDiff, reduceCtorEq, if_true, if_false]; rfl) | simp only [Tr.get_put, Nat.reduceEqDiff, reduceCtorEq, if_true, if_false]) ⟨rfl, rfl⟩
  · repeat' (first | refine EvC.seq ?_ | refine EvC.scope ?_ | refine EvC.block ?_ | (refine EvC.skip ?_) | (refine EvC.exit ?_) | (refine EvC.ret ?_; try simp only [thenC_ret, inBlock_ret]) | (refine EvC.reg ?_; simp (config := { maxSteps := 2000000 }) (disch := first | omega | rfl) only [sA, initTm, Nat.reduceEqDiff, reduceCtorEq, if_true, if_false, ln9, one, decide_eq_false]))
    exact leave_one rfl (by first | (simp only [sA, Nat.reduceEqDiff, reduceCtorEq, if_true, if_false]; rfl) | simp only []) ⟨by rw [neg_none (by omega)], rfl⟩

-- strings.HasPrefix
theorem prefix_ev {s : ByteArray} {H : Heap} (hs : s.size ≤ maxLen) : EvF Tryd.prog okT 108 [.string s, .string ⟨#[45]⟩] H fun v H' => v = .bool (negS (bl s)) ∧ H' = H := by
  refine EvF.enter rfl Tryd.func108 (by decide) rfl ?_
  repeat' (first | refine EvC.seq ?_ | refine EvC.scope ?_ | refine EvC.block ?_ | (refine EvC.skip ?_) | (refine EvC.exit ?_) | (refine EvC.ret ?_; try simp only [thenC_ret, inBlock_ret]) | (refine EvC.reg ?_; simp (config := { maxSteps := 2000000 }) (disch := first | omega | rfl) only [sA, initTm, Nat.reduceEqDiff, reduceCtorEq, if_true, if_false, cl129]))
  refine (prefixL_ev hs).mono ?_
  rintro v H1 ⟨rfl, rfl⟩
  repeat' (first | refine EvC.seq ?_ | refine EvC.scope ?_ | refine EvC.block ?_ | (refine EvC.skip ?_) | (refine EvC.exit ?_) | (refine EvC.ret ?_; try simp only [thenC_ret, inBlock_ret]))
  exact leave_one rfl (by first | (simp only [Tr.get_put, Nat.reduceEqDiff, reduceCtorEq, if_true, if_false]; rfl) | simp only [Tr.get_put, Nat.reduceEqDiff, reduceCtorEq, if_true, if_false]) ⟨rfl, rfl⟩

end Go.Proofs.YtlllbkjiadcloaaDoor.hb
end

-- Z4
section
/- The orders: integers by their digits, the program's. -/
namespace Go.Proofs.YtlllbkjiadcloaaDoor.hb
open Go Go.RowKit Go.Hb
variable {ok : Ok}
set_option maxRecDepth 10000
attribute [local irreducible] LX LG EL STG SOP SGO SGD SAL SRD SEF SEG SLK SCK ES

theorem pair_load {x y : Value} {ty : TypeId} {H : Heap} : (H.new (some (Blk.row [x, y] ty))).load ⟨H.next, 0, none⟩ 1 = some [x] ∧ (H.new (some (Blk.row [x, y] ty))).load ⟨H.next, 1, none⟩ 1 = some [y] := by
  constructor <;> simp only [Heap.load, Heap.cells, Heap.get_new, if_pos] <;> rfl

-- term.numbers
set_option maxHeartbeats 2000000 in
theorem numbers_ev {a b : ByteArray} {H : Heap} (ha : a.size ≤ maxLen) (hb : b.size ≤ maxLen) (hw : H.wf) : EvF Tryd.prog okT 87 [.string a, .string b] H fun v H' => v = .int .i64 (numZ a b) ∧ HX H H' := by
  refine EvF.enter rfl Tryd.func87 (by decide) rfl ?_
  repeat' (first | refine EvC.seq ?_ | refine EvC.scope ?_ | refine EvC.block ?_ | (refine EvC.skip ?_) | (refine EvC.exit ?_) | (refine EvC.ret ?_; try simp only [thenC_ret, inBlock_ret]) | (refine EvC.reg ?_; simp (config := { maxSteps := 2000000 }) (disch := first | omega | rfl) only [sA, initTm, Nat.reduceEqDiff, reduceCtorEq, if_true, if_false, cl108]))
  refine (prefix_ev ha).mono ?_
  rintro v H1 ⟨rfl, rfl⟩
  repeat' (first | refine EvC.seq ?_ | refine EvC.scope ?_ | refine EvC.block ?_ | (refine EvC.skip ?_) | (refine EvC.exit ?_) | (refine EvC.ret ?_; try simp only [thenC_ret, inBlock_ret]))
  refine (prefix_ev hb).mono ?_
  rintro v H2 ⟨rfl, rfl⟩
  have hr := orZ_range (cmpZ_range a.size b.size) (cmpS_range a b)
  cases hx : negS (bl a) <;> cases hy : negS (bl b)
  · repeat' (first | refine EvC.seq ?_ | refine EvC.scope ?_ | refine EvC.block ?_ | (refine EvC.skip ?_; try simp only [sA]) | (refine EvC.exit ?_) | (refine EvC.ret ?_; try simp only [thenC_ret, inBlock_ret]) | (refine EvC.reg ?_; simp (config := { maxSteps := 2000000 }) (disch := first | omega | rfl) only [sA, Nat.reduceEqDiff, Nat.reduceAdd, Value.cells, reduceCtorEq, if_true, if_false, layC, ln9, cl83, cl91, bs46_2, Bool.false_eq_true]) | (refine EvC.condT ?_ ?_; simp (config := { maxSteps := 2000000 }) (disch := first | omega | rfl) only [sA, Nat.reduceEqDiff, reduceCtorEq, if_true, if_false]; refine EvC_go ?_) | (refine EvC.condF ?_ ?_; simp (config := { maxSteps := 2000000 }) (disch := first | omega | rfl) only [sA, Nat.reduceEqDiff, reduceCtorEq, if_true, if_false]; refine EvC_go ?_))
    refine cmpI_ev.mono ?_
    rintro v H1 ⟨rfl, rfl⟩
    repeat' (first | refine EvC.seq ?_ | refine EvC.scope ?_ | refine EvC.block ?_ | (refine EvC.skip ?_) | (refine EvC.exit ?_) | (refine EvC.ret ?_; try simp only [thenC_ret, inBlock_ret]))
    refine cmpS_ev.mono ?_
    rintro v H1 ⟨rfl, rfl⟩
    repeat' (first | refine EvC.seq ?_ | refine EvC.scope ?_ | refine EvC.block ?_ | (refine EvC.skip ?_) | (refine EvC.exit ?_) | (refine EvC.ret ?_; try simp only [thenC_ret, inBlock_ret]) | (refine LX_go ?_; simp (config := { maxSteps := 2000000 }) (disch := first | omega | rfl) only [sA, Nat.reduceEqDiff, Nat.reduceAdd, one, reduceCtorEq, if_true, if_false, Nat.reduceLeDiff, cl90]))
    refine (or_ev pair_load.1 pair_load.2).mono ?_
    rintro v H3 ⟨rfl, rfl⟩
    repeat' (first | refine EvC.seq ?_ | refine EvC.scope ?_ | refine EvC.block ?_ | (refine EvC.skip ?_; try simp only [thenC_normal]) | (refine EvC.exit ?_) | (refine EvC.ret ?_; try simp only [thenC_ret, inBlock_ret]) | (refine EvC.reg ?_; simp (config := { maxSteps := 2000000 }) (disch := first | omega | rfl) only [sA, Nat.reduceEqDiff, reduceCtorEq, if_true, if_false]) | (refine EvC.condT ?_ ?_; simp (config := { maxSteps := 2000000 }) (disch := first | omega | rfl) only [sA, Nat.reduceEqDiff, reduceCtorEq, if_true, if_false]; refine EvC_go ?_) | (refine EvC.condF ?_ ?_; simp (config := { maxSteps := 2000000 }) (disch := first | omega | rfl) only [sA, Nat.reduceEqDiff, reduceCtorEq, if_true, if_false]; refine EvC_go ?_))
    exact leave_one rfl (by first | (simp only [sA, Nat.reduceEqDiff, reduceCtorEq, if_true, if_false]; rfl) | simp only []) ⟨by simp [numZ, hx, hy], (HX.refl hw).new _⟩
  · repeat' (first | refine EvC.seq ?_ | refine EvC.scope ?_ | refine EvC.block ?_ | (refine EvC.skip ?_) | (refine EvC.exit ?_) | (refine EvC.ret ?_; try simp only [thenC_ret, inBlock_ret]) | (refine EvC.reg ?_; simp (config := { maxSteps := 2000000 }) (disch := first | omega | rfl) only [sA, Nat.reduceEqDiff, reduceCtorEq, if_true, if_false, Bool.not_false, Bool.false_eq_true]) | (refine EvC.condT ?_ ?_; simp (config := { maxSteps := 2000000 }) (disch := first | omega | rfl) only [sA, Nat.reduceEqDiff, reduceCtorEq, if_true, if_false]; refine EvC_go ?_) | (refine EvC.condF ?_ ?_; simp (config := { maxSteps := 2000000 }) (disch := first | omega | rfl) only [sA, Nat.reduceEqDiff, reduceCtorEq, if_true, if_false]; refine EvC_go ?_))
    exact leave_one rfl (by first | (simp only [sA, Nat.reduceEqDiff, reduceCtorEq, if_true, if_false]; rfl) | simp only []) ⟨by simp [numZ, hx, hy], HX.refl hw⟩
  · repeat' (first | refine EvC.seq ?_ | refine EvC.scope ?_ | refine EvC.block ?_ | (refine EvC.skip ?_) | (refine EvC.exit ?_) | (refine EvC.ret ?_; try simp only [thenC_ret, inBlock_ret]) | (refine EvC.reg ?_; simp (config := { maxSteps := 2000000 }) (disch := first | omega | rfl) only [sA, Nat.reduceEqDiff, reduceCtorEq, if_true, if_false, Bool.not_false]) | (refine EvC.condT ?_ ?_; simp (config := { maxSteps := 2000000 }) (disch := first | omega | rfl) only [sA, Nat.reduceEqDiff, reduceCtorEq, if_true, if_false]; refine EvC_go ?_))
    exact leave_one rfl (by first | (simp only [sA, Nat.reduceEqDiff, reduceCtorEq, if_true, if_false]; rfl) | simp only []) ⟨by simp [numZ, hx, hy], HX.refl hw⟩
  · repeat' (first | refine EvC.seq ?_ | refine EvC.scope ?_ | refine EvC.block ?_ | (refine EvC.skip ?_; try simp only [sA]) | (refine EvC.exit ?_) | (refine EvC.ret ?_; try simp only [thenC_ret, inBlock_ret]) | (refine EvC.reg ?_; simp (config := { maxSteps := 2000000 }) (disch := first | omega | rfl) only [sA, Nat.reduceEqDiff, Nat.reduceAdd, Value.cells, reduceCtorEq, if_true, if_false, layC, ln9, cl83, cl91, bs46_2, Bool.not_true]) | (refine EvC.condT ?_ ?_; simp (config := { maxSteps := 2000000 }) (disch := first | omega | rfl) only [sA, Nat.reduceEqDiff, reduceCtorEq, if_true, if_false]; refine EvC_go ?_) | (refine EvC.condF ?_ ?_; simp (config := { maxSteps := 2000000 }) (disch := first | omega | rfl) only [sA, Nat.reduceEqDiff, reduceCtorEq, if_true, if_false]; refine EvC_go ?_))
    refine cmpI_ev.mono ?_
    rintro v H1 ⟨rfl, rfl⟩
    repeat' (first | refine EvC.seq ?_ | refine EvC.scope ?_ | refine EvC.block ?_ | (refine EvC.skip ?_) | (refine EvC.exit ?_) | (refine EvC.ret ?_; try simp only [thenC_ret, inBlock_ret]))
    refine cmpS_ev.mono ?_
    rintro v H1 ⟨rfl, rfl⟩
    repeat' (first | refine EvC.seq ?_ | refine EvC.scope ?_ | refine EvC.block ?_ | (refine EvC.skip ?_) | (refine EvC.exit ?_) | (refine EvC.ret ?_; try simp only [thenC_ret, inBlock_ret]) | (refine LX_go ?_; simp (config := { maxSteps := 2000000 }) (disch := first | omega | rfl) only [sA, Nat.reduceEqDiff, Nat.reduceAdd, one, reduceCtorEq, if_true, if_false, Nat.reduceLeDiff, cl90]))
    refine (or_ev pair_load.1 pair_load.2).mono ?_
    rintro v H3 ⟨rfl, rfl⟩
    repeat' (first | refine EvC.seq ?_ | refine EvC.scope ?_ | refine EvC.block ?_ | (refine EvC.skip ?_) | (refine EvC.exit ?_) | (refine EvC.ret ?_; try simp only [thenC_ret, inBlock_ret]) | (refine EvC.reg ?_; simp (config := { maxSteps := 2000000 }) (disch := first | omega | rfl) only [sA, Nat.reduceEqDiff, reduceCtorEq, if_true, if_false, bNegI, wrap_i64]) | (refine EvC.condT ?_ ?_; simp (config := { maxSteps := 2000000 }) (disch := first | omega | rfl) only [sA, Nat.reduceEqDiff, reduceCtorEq, if_true, if_false]; refine EvC_go ?_))
    exact leave_one rfl (by first | (simp only [sA, Nat.reduceEqDiff, reduceCtorEq, if_true, if_false]; rfl) | simp only []) ⟨by simp [numZ, hx, hy], (HX.refl hw).new _⟩

end Go.Proofs.YtlllbkjiadcloaaDoor.hb
end

-- Z5
section
/- The orders: integers by their digits, the reference's. -/
namespace Go.Proofs.YtlllbkjiadcloaaDoor.hb
open Go Go.RowKit Go.Hb
variable {ok : Ok}
set_option maxRecDepth 10000
attribute [local irreducible] LX LG EL STG SOP SGO SGD SAL SRD SEF SEG SLK SCK ES

-- hornbeamref02.Ints
end Go.Proofs.YtlllbkjiadcloaaDoor.hb
end

-- Z6
section
/- The orders: floats by their bits, the reference's. -/
namespace Go.Proofs.YtlllbkjiadcloaaDoor.hb
open Go Go.RowKit Go.Hb
variable {ok : Ok}
set_option maxRecDepth 10000
attribute [local irreducible] LX LG EL STG SOP SGO SGD SAL SRD SEF SEG SLK SCK ES

def iOr (k : IntKind) (a b : Int) : Int := k.wrap (BitVec.ofInt k.bits a ||| BitVec.ofInt k.bits b).toNat
def iNot (a : Int) : Int := IntKind.u64.wrap (BitVec.ofInt IntKind.u64.bits IntKind.u64.max ^^^ BitVec.ofInt IntKind.u64.bits a).toNat
def keyF (n : Int) : Int := if 9223372036854775808 ≤ n then 18446744073709551615 - n else n + 9223372036854775808
def fltZ (a b : Int) : Int := cmpZ (keyF a) (keyF b)

-- hornbeamref02.Floats
end Go.Proofs.YtlllbkjiadcloaaDoor.hb
end

-- Z7
section
/- The orders: floats, the program's. -/
namespace Go.Proofs.YtlllbkjiadcloaaDoor.hb
open Go Go.RowKit Go.Hb
variable {ok : Ok}
set_option maxRecDepth 10000
attribute [local irreducible] LX LG EL STG SOP SGO SGD SAL SRD SEF SEG SLK SCK ES

theorem dBin_lssF {P : Program} {H : Heap} {t : TypeId} {x y : Operand} {k : FloatKind} {a b : Nat} : dBin P .lss t x y (.float k a) (.float k b) H = some (.val (.bool (k.format.order a b == some .lt)) H) := by
  simp [dBin, dnil, flat, eqGuard, binOp, Op.floatCmp, Sem.bind]; rfl
def ordF (a b : Nat) : Option Ordering := FloatKind.f64.format.order a b
def fltO (a b : Nat) : Int := if ordF a b == some .lt then -1 else if ordF a b == some .gt then 1 else 0

-- cmp.isNaN[float64]
theorem nanF_ev {a : Nat} {H : Heap} (h : (FloatKind.f64.format.order a a != some .eq) = false) : EvF Tryd.prog okT 109 [.float .f64 a] H fun v H' => v = .bool false ∧ H' = H := by
  refine EvF.enter rfl Tryd.func109 (by decide) rfl ?_
  repeat' (first | refine EvC.seq ?_ | refine EvC.scope ?_ | refine EvC.block ?_ | (refine EvC.skip ?_) | (refine EvC.exit ?_) | (refine EvC.ret ?_; try simp only [thenC_ret, inBlock_ret]) | (refine EvC.reg ?_; simp (config := { maxSteps := 2000000 }) (disch := first | omega | rfl) only [sA, initTm, Nat.reduceEqDiff, reduceCtorEq, if_true, if_false, dBin_neqF, h]))
  exact leave_one rfl (by first | (simp only [Tr.get_put, Nat.reduceEqDiff, reduceCtorEq, if_true, if_false]; rfl) | simp only [Tr.get_put, Nat.reduceEqDiff, reduceCtorEq, if_true, if_false]) ⟨rfl, rfl⟩

-- cmp.Compare[float64]
theorem cmpF_ev {a b : Nat} {H : Heap} (ha : (FloatKind.f64.format.order a a != some .eq) = false) (hb : (FloatKind.f64.format.order b b != some .eq) = false) : EvF Tryd.prog okT 88 [.float .f64 a, .float .f64 b] H fun v H' => v = .int .i64 (fltO a b) ∧ H' = H := by
  refine EvF.enter rfl Tryd.func88 (by decide) rfl ?_
  repeat' (first | refine EvC.seq ?_ | refine EvC.scope ?_ | refine EvC.block ?_ | (refine EvC.skip ?_) | (refine EvC.exit ?_) | (refine EvC.ret ?_; try simp only [thenC_ret, inBlock_ret]) | (refine EvC.reg ?_; simp (config := { maxSteps := 2000000 }) (disch := first | omega | rfl) only [sA, initTm, Nat.reduceEqDiff, reduceCtorEq, if_true, if_false, cl109]))
  refine (nanF_ev ha).mono ?_
  rintro v H1 ⟨rfl, rfl⟩
  repeat' (first | refine EvC.seq ?_ | refine EvC.scope ?_ | refine EvC.block ?_ | (refine EvC.skip ?_) | (refine EvC.exit ?_) | (refine EvC.ret ?_; try simp only [thenC_ret, inBlock_ret]) | (refine EvC.reg ?_; simp (config := { maxSteps := 2000000 }) (disch := first | omega | rfl) only [sA, Nat.reduceEqDiff, reduceCtorEq, if_true, if_false, cl109]))
  refine (nanF_ev hb).mono ?_
  rintro v H2 ⟨rfl, rfl⟩
  have hl : FloatKind.f64.format.order a b = ordF a b := rfl
  cases h1 : (ordF a b == some .lt)
  · cases h2 : (ordF a b == some .gt)
    · repeat' (first | refine EvC.seq ?_ | refine EvC.scope ?_ | refine EvC.block ?_ | (refine EvC.skip ?_; try simp only [thenC_normal]) | (refine EvC.exit ?_) | (refine EvC.ret ?_; try simp only [thenC_ret, inBlock_ret]) | (refine EvC.reg ?_; simp (config := { maxSteps := 2000000 }) (disch := first | omega | rfl) only [sA, Nat.reduceEqDiff, reduceCtorEq, if_true, if_false, dBin_lssF, dBin_gtrF, hl, h1, h2]) | (refine EvC.condT ?_ ?_; simp (config := { maxSteps := 2000000 }) (disch := first | omega | rfl) only [sA, Nat.reduceEqDiff, reduceCtorEq, if_true, if_false]; refine EvC_go ?_) | (refine EvC.condF ?_ ?_; simp (config := { maxSteps := 2000000 }) (disch := first | omega | rfl) only [sA, Nat.reduceEqDiff, reduceCtorEq, if_true, if_false]; refine EvC_go ?_))
      exact leave_one rfl (by first | (simp only [sA, Nat.reduceEqDiff, reduceCtorEq, if_true, if_false]; rfl) | simp only []) ⟨by simp [fltO, h1, h2], rfl⟩
    · repeat' (first | refine EvC.seq ?_ | refine EvC.scope ?_ | refine EvC.block ?_ | (refine EvC.skip ?_; try simp only [thenC_normal]) | (refine EvC.exit ?_) | (refine EvC.ret ?_; try simp only [thenC_ret, inBlock_ret]) | (refine EvC.reg ?_; simp (config := { maxSteps := 2000000 }) (disch := first | omega | rfl) only [sA, Nat.reduceEqDiff, reduceCtorEq, if_true, if_false, dBin_lssF, dBin_gtrF, hl, h1, h2]) | (refine EvC.condT ?_ ?_; simp (config := { maxSteps := 2000000 }) (disch := first | omega | rfl) only [sA, Nat.reduceEqDiff, reduceCtorEq, if_true, if_false]; refine EvC_go ?_) | (refine EvC.condF ?_ ?_; simp (config := { maxSteps := 2000000 }) (disch := first | omega | rfl) only [sA, Nat.reduceEqDiff, reduceCtorEq, if_true, if_false]; refine EvC_go ?_))
      exact leave_one rfl (by first | (simp only [sA, Nat.reduceEqDiff, reduceCtorEq, if_true, if_false]; rfl) | simp only []) ⟨by simp [fltO, h1, h2], rfl⟩
  · repeat' (first | refine EvC.seq ?_ | refine EvC.scope ?_ | refine EvC.block ?_ | (refine EvC.skip ?_; try simp only [thenC_normal]) | (refine EvC.exit ?_) | (refine EvC.ret ?_; try simp only [thenC_ret, inBlock_ret]) | (refine EvC.reg ?_; simp (config := { maxSteps := 2000000 }) (disch := first | omega | rfl) only [sA, Nat.reduceEqDiff, reduceCtorEq, if_true, if_false, dBin_lssF, hl, h1]) | (refine EvC.condT ?_ ?_; simp (config := { maxSteps := 2000000 }) (disch := first | omega | rfl) only [sA, Nat.reduceEqDiff, reduceCtorEq, if_true, if_false]; refine EvC_go ?_) | (refine EvC.condF ?_ ?_; simp (config := { maxSteps := 2000000 }) (disch := first | omega | rfl) only [sA, Nat.reduceEqDiff, reduceCtorEq, if_true, if_false]; refine EvC_go ?_))
    exact leave_one rfl (by first | (simp only [sA, Nat.reduceEqDiff, reduceCtorEq, if_true, if_false]; rfl) | simp only []) ⟨by simp [fltO, h1], rfl⟩

end Go.Proofs.YtlllbkjiadcloaaDoor.hb
end
