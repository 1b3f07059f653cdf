import Derived.Test.YtlllbkjiadcloaaDoorM3
import Derived.Test.YtlllbkjiadcloaaDoorM4
/- Lemmas on the program's own code, towards the laws of this folder, part 5. Conditions: as each lemma says. -/
-- U3
section
namespace Go.Proofs.YtlllbkjiadcloaaDoor.hb
open Go Go.RowKit Go.Hb
variable {ok : Ok}
set_option maxRecDepth 10000
attribute [local irreducible] LX LG EL STG SOP SGO SGD SAL SRD SEF SEG SLK SCK ES
set_option maxHeartbeats 4000000 in
theorem zb0 {l : List Tm} {a : Option Addr} {c : Nat} {cells : Nat → List Value} {H : Heap} (rl : RepL H l a c cells) (hlen : (occL l).length ≤ most) (hw : H.wf) :
    EvF Tryd.prog okT 66 [.slice a l.length c] H fun v H' => IntL H' 3 (Rg H.next H'.next) (uniq (occL l)) v ∧ HX H H' := by
  have hm := rl.max
  refine EvF.enter rfl Tryd.func66 (by decide) rfl ?_
  repeat' (first | refine EvC.seq ?_ | refine EvC.scope ?_ | refine EvC.block ?_ | (refine EvC.skip ?_) | (refine EvC.exit ?_) | (refine EvC.ret ?_; try simp only [z01, z00]) | (refine EvC.reg ?_; simp (config := { maxSteps := 2000000 }) (disch := first | omega | rfl) only [sB, initTm, dAlloc, Nat.reduceEqDiff, one, reduceCtorEq, zr46, zr90, st90, ln24, z4m]))
  have E := zmj (H0 := H) (pm := H.next + 1 + 1) (po := H.next) (r := H.next + 1) (tot := occL l) (by omega) (by omega) (by omega) (by omega) (by omega) (by omega) hlen
  refine EvC.loop (fun k st => ∃ tm H' i S, st = ⟨tm, [], H'⟩ ∧ k = l.length - i ∧ i ≤ l.length ∧ tm.get 3 = some (.pointer (some ⟨H.next, 0, none⟩)) ∧ tm.get 4 = some (.pointer (some ⟨H.next + 1 + 1, 0, none⟩)) ∧ tm.get 8 = some (.slice a l.length c) ∧ tm.get 9 = some (.int .i64 l.length) ∧ tm.get 10 = some (.int .i64 (i : Nat)) ∧
      VarJ H (H.next + 1 + 1) H.next (H.next + 1) S (occL (l.take i)) H') ?_ l.length _ ?_
  · rintro k st ⟨tm, H', i, S, rfl, rfl, hi, t3, t4, t8, t9, t10, hj⟩
    have hx' := E.base _ _ _ hj
    by_cases hlt : i < l.length
    · obtain ⟨b, o, a1, c1, rfl, hld, hr1⟩ := rl.el hlt
      have hld1 := hx'.load hw hld
      repeat' (first | refine EvC.seq ?_ | refine EvC.scope ?_ | refine EvC.block ?_ | (refine EvC.skip ?_; try simp only [z02]) | (refine EvC.exit ?_) | (refine EvC.ret ?_; try simp only [z01, z00]) | (refine EvC.reg ?_; simp (config := { maxSteps := 2000000 }) (disch := first | omega | rfl) only [sB, dAlloc, Nat.reduceEqDiff, Nat.reduceAdd, one, cutC, ia24, ld26, zr26, st26, cl69, t3, t4, t8, t9, t10, decl hlt, hld1, List.map_toArray]) | (refine EvC.condT ?_ ?_; simp (config := { maxSteps := 2000000 }) (disch := first | omega | rfl) only [sB]; refine z03 ?_))
      obtain ⟨H4, e4, hx4, g4, hn4, hw4⟩ := z0u hx'.wf (.row zero6 26) (.row (six l[i] a1 c1) 26)
      simp only [e4]
      have htake := z7e hlt
      refine (zhi hw (by kernel_rfl) E _ (Nat.lt_succ_self _) hr1 (E.stay _ _ _ _ hj hx4) (by rw [← htake]; exact ze7 _ _)).mono ?_
      rintro v H5 ⟨S5, hj5, -⟩
      repeat' (first | refine EvC.seq ?_ | refine EvC.scope ?_ | refine EvC.block ?_ | (refine EvC.skip ?_) | (refine EvC.exit ?_) | (refine EvC.ret ?_; try simp only [z01, z00]) | (refine EvC.reg ?_; simp (config := { maxSteps := 2000000 }) (disch := first | omega | rfl) only [sB, Nat.reduceEqDiff, t10, z05]))
      exact ⟨l.length - (i + 1), by omega, _, _, i + 1, S5, rfl, rfl, by omega, (by simp only [sG, Nat.reduceEqDiff, t3] <;> rfl), (by simp only [sG, Nat.reduceEqDiff, t4] <;> rfl), (by simp only [sG, Nat.reduceEqDiff, t8] <;> rfl), (by simp only [sG, Nat.reduceEqDiff, t9] <;> rfl), (by simp only [sB, Nat.reduceEqDiff] <;> rfl), by rw [htake]; exact hj5⟩
    · obtain ⟨-, gm, v, M, Sb, go, -, -, hi, -, hSb⟩ := hj
      have lo : H'.load ⟨H.next, 0, none⟩ 1 = some [v] := by unfold Heap.load Heap.cells; simp only [go]; rfl
      rw [List.take_of_length_le (by omega)] at hi
      repeat' (first | refine EvC.seq ?_ | refine EvC.scope ?_ | refine EvC.block ?_ | (refine EvC.skip ?_) | (refine EvC.exit ?_; try simp only [sB]) | (refine EvC.ret ?_; try simp only [z01, z00]) | (refine EvC.reg ?_; simp (config := { maxSteps := 2000000 }) (disch := first | omega | rfl) only [sB, Nat.reduceEqDiff, ld46, t3, t9, t10, decn hlt, lo]) | (refine EvC.condT ?_ ?_; simp (config := { maxSteps := 2000000 }) (disch := first | omega | rfl) only [sB]; refine z03 ?_) | (refine EvC.condF ?_ ?_; simp (config := { maxSteps := 2000000 }) (disch := first | omega | rfl) only [sB]; refine z03 ?_))
      refine z04 rfl (by simp only [sB, Nat.reduceEqDiff] <;> rfl) ⟨?_, hx'⟩
      rcases hi with h | ⟨b, c', h1, h2, h3, h4, h5⟩
      · exact .inl h
      · exact .inr ⟨b, c', h1, h2, h3, h4, by have := hSb _ h5; exact ⟨by omega, by omega⟩⟩
  · obtain ⟨H1, e1, hx1, g1, n1, w1⟩ := new1 hw (.row [.slice none 0 0] 46)
    obtain ⟨H2, e2, hx2, g2, n2, w2⟩ := new1 w1 (.map [] 0)
    obtain ⟨H3, e3, hx3, g3, n3, w3⟩ := z0u w2 (.row [.map none] 90) (.row [.map (some (H.next + 1))] 90)
    have n2' : H2.next = H.next + 1 + 1 := by omega
    rw [n2'] at e3 g3
    simp only [e1, e2, e3]
    have hx := (hx1.trans hx2).trans hx3
    refine ⟨_, _, 0, fun n => n = H.next + 1 ∨ n = H.next ∨ False, rfl, rfl, by omega, (by simp only [sG, Nat.reduceEqDiff, reduceCtorEq] <;> rfl), (by simp only [sG, Nat.reduceEqDiff, reduceCtorEq] <;> rfl), (by simp only [sG, Nat.reduceEqDiff, reduceCtorEq] <;> rfl), (by simp only [sG, Nat.reduceEqDiff, reduceCtorEq] <;> rfl), (by simp only [sB, Nat.reduceEqDiff, reduceCtorEq] <;> rfl), hx, g3, .slice none 0 0, [], fun _ => False, hx3.get w2 (hx2.get w1 g1), ⟨[], 0, ?_, rfl⟩, fun n => ?_, ?_, fun n => Iff.rfl, fun n h => h.elim⟩
    · rw [n1] at g2; exact hx3.get w2 g2
    · rw [List.take_zero, occL]; simp [uniq, mGet]
    · rw [List.take_zero, occL]; exact .inl ⟨rfl, rfl⟩
end Go.Proofs.YtlllbkjiadcloaaDoor.hb
end

-- U4
section
namespace Go.Proofs.YtlllbkjiadcloaaDoor.hb
open Go Go.RowKit Go.Hb
variable {ok : Ok}
set_option maxRecDepth 10000
attribute [local irreducible] LX LG EL STG SOP SGO SGD SAL SRD SEF SEG SLK SCK ES
mutual
def sub (σ : Int → Tm) : Tm → Tm
  | .mk k s u b v l => if k = 1 then σ v else .mk k s u b v (subL σ l)
def subL (σ : Int → Tm) : List Tm → List Tm
  | [] => []
  | t :: l => sub σ t :: subL σ l
end
structure ByAll (g : FuncId) (cap : Array Value) (σ : Int → Tm) (J : Heap → Prop) : Prop where
  step : ∀ n H, i64 n → J H → H.wf → EvF Tryd.prog okT g ([.int .i64 n] ++ cap.toList) H fun v H' => (∃ cs, v = .tuple #[.agg ⟨cs⟩, .bool true] ∧ RepT H' (σ n) cs) ∧ HX H H'
  stay : ∀ H H', J H → HX H H' → J H'
  fine : ∀ n, 0 ≤ n → Fine (σ n)
end Go.Proofs.YtlllbkjiadcloaaDoor.hb
end

-- V3
section
namespace Go.Hb
open Go Go.RowKit
theorem FL.inv {H : Heap} {T : TypeId} {S : Nat → Prop} {l : List Tm} {a : Option Addr} {c : Nat} (h : FL H T S l a c) : (l = [] ∧ a = none ∧ c = 0) ∨ ∃ b cells Si ai ci, a = some ⟨b, 0, none⟩ ∧ l.length ≤ c ∧ c ≤ maxLen ∧
    H.get b = some (.row cells T) ∧ l.length * 6 ≤ cells.length ∧ S b ∧ (∀ i, i < l.length → ¬ Si i b) ∧ FLs H T S l cells Si ai ci := by
  cases h with
  | nil => exact .inl ⟨rfl, rfl, rfl⟩
  | row _ _ b c cells Si ai ci h1 h2 h3 h4 h5 h6 h7 h8 h9 h10 h11 => exact .inr ⟨b, cells, Si, ai, ci, rfl, h1, h2, h3, h4, h7, h8, ⟨h5, h6, h9, h10, h11⟩⟩
end Go.Hb
namespace Go.Proofs.YtlllbkjiadcloaaDoor.hb
open Go Go.RowKit Go.Hb
variable {ok : Ok}
set_option maxRecDepth 10000
attribute [local irreducible] LX LG EL STG SOP SGO SGD SAL SRD SEF SEG SLK SCK ES
abbrev mark6 (k : Int) (s : ByteArray) : List Value := [.int .i64 k, .string s, .string ByteArray.empty, .int .u64 0, .int .i64 0, .slice none 0 0]
end Go.Proofs.YtlllbkjiadcloaaDoor.hb
end

-- Z16
section
namespace Go.Proofs.YtlllbkjiadcloaaDoor.hb
open Go Go.RowKit Go.Hb
variable {ok : Ok}
set_option maxRecDepth 10000
attribute [local irreducible] LX LG EL STG SOP SGO SGD SAL SRD SEF SEG SLK SCK ES
noncomputable def eqT (t t' : Tm) : Bool := @decide (t = t') (Classical.propDecidable _)
theorem zjr {t t' : Tm} (h : t = t') : eqT t t' = true := by unfold eqT; exact @decide_eq_true _ (Classical.propDecidable _) h
theorem z9h {t t' : Tm} (h : t ≠ t') : eqT t t' = false := by unfold eqT; exact @decide_eq_false _ (Classical.propDecidable _) h
theorem z27 {a b : ByteArray} (h : a = b) : (a.toList == b.toList) = true := by rw [h]; exact beq_self_eq_true _
theorem ze9 {a b : ByteArray} (h : a ≠ b) : (a.toList == b.toList) = false := by
  rw [beq_eq_false_iff_ne]; exact fun q => h (z45 q)
set_option maxHeartbeats 4000000 in
theorem zmk {m : Nat} : ∀ {t t' : Tm} {cs cs' : List Value} {H : Heap}, SizeOf.sizeOf t < m → RepT H t cs → RepT H t' cs' → H.wf →
    EvF Tryd.prog okT 20 [.agg ⟨cs⟩, .agg ⟨cs'⟩] H fun v H' => v = .bool (eqT t t') ∧ HX H H' := by
  induction m with
  | zero => intro t t' cs cs' H h; omega
  | succ m ih =>
  intro t t' cs cs' H hsz r r' hw
  obtain ⟨a, c, cells, rfl, b1, b2, b3, b4, b5, rl⟩ := r.six
  obtain ⟨a', c', cells', rfl, b1', b2', b3', b4', b5', rl'⟩ := r'.six
  refine EvF.enter rfl Tryd.func20 (by decide) rfl ?_
  (repeat refine EvC.seq ?_); refine EvC.reg ?_; simp (config := { maxSteps := 2000000 }) (disch := first | omega | rfl) only [sB, initTm, dBox, Nat.reduceEqDiff, Value.cells, one, reduceCtorEq]
  obtain ⟨H2, e2, hx2, gp, gq, hnx, hw2⟩ := new2 hw (.row (six t a c) 26) (.row (six t' a' c') 26)
  simp only [e2]
  have q1 := row6 gp
  have q2 := row6 gq
  clear e2
  by_cases k1 : t.kind = t'.kind
  rotate_left
  · repeat' (first | refine EvC.seq ?_ | refine EvC.scope ?_ | refine EvC.block ?_ | (refine EvC.skip ?_) | (refine EvC.exit ?_) | (refine EvC.ret ?_; try simp only [z01, z00]) | (refine EvC.reg ?_; simp (config := { maxSteps := 2000000 }) (disch := first | omega | rfl) only [sB, Nat.reduceEqDiff, reduceCtorEq, z0y, ld3, z31 k1, q1, q2]) | (refine EvC.condT ?_ ?_; simp (config := { maxSteps := 2000000 }) (disch := first | omega | rfl) only [sB, Nat.reduceEqDiff, reduceCtorEq]; refine z03 ?_))
    exact z04 rfl (by simp only [sB, Nat.reduceEqDiff, reduceCtorEq] <;> rfl) ⟨by rw [z9h (fun h => k1 (by rw [h]))], hx2⟩
  by_cases k2 : t.name = t'.name
  rotate_left
  · repeat' (first | refine EvC.seq ?_ | refine EvC.scope ?_ | refine EvC.block ?_ | (refine EvC.skip ?_) | (refine EvC.exit ?_) | (refine EvC.ret ?_; try simp only [z01, z00]) | (refine EvC.reg ?_; simp (config := { maxSteps := 2000000 }) (disch := first | omega | rfl) only [sB, Nat.reduceEqDiff, reduceCtorEq, z0y, ld3, z2h, ld9, z17 k1, q1, q2, z15, ze9 k2, Bool.not_false, Bool.false_eq_true]) | (refine EvC.condT ?_ ?_; simp (config := { maxSteps := 2000000 }) (disch := first | omega | rfl) only [sB, Nat.reduceEqDiff, reduceCtorEq]; refine z03 ?_))
    exact z04 rfl (by simp only [sB, Nat.reduceEqDiff, reduceCtorEq] <;> rfl) ⟨by rw [z9h (fun h => k2 (by rw [h]))], hx2⟩
  by_cases k3 : t.num = t'.num
  rotate_left
  · repeat' (first | refine EvC.seq ?_ | refine EvC.scope ?_ | refine EvC.block ?_ | (refine EvC.skip ?_) | (refine EvC.exit ?_) | (refine EvC.ret ?_; try simp only [z01, z00]) | (refine EvC.reg ?_; simp (config := { maxSteps := 2000000 }) (disch := first | omega | rfl) only [sB, Nat.reduceEqDiff, reduceCtorEq, z0y, ld3, z2h, ld9, z4d, z17 k1, q1, q2, z15, z27 k2, ze9 k3, Bool.not_false, Bool.not_true, Bool.false_eq_true]) | (refine EvC.condT ?_ ?_; simp (config := { maxSteps := 2000000 }) (disch := first | omega | rfl) only [sB, Nat.reduceEqDiff, reduceCtorEq]; refine z03 ?_))
    exact z04 rfl (by simp only [sB, Nat.reduceEqDiff, reduceCtorEq] <;> rfl) ⟨by rw [z9h (fun h => k3 (by rw [h]))], hx2⟩
  by_cases k4 : t.bits = t'.bits
  rotate_left
  · repeat' (first | refine EvC.seq ?_ | refine EvC.scope ?_ | refine EvC.block ?_ | (refine EvC.skip ?_) | (refine EvC.exit ?_) | (refine EvC.ret ?_; try simp only [z01, z00]) | (refine EvC.reg ?_; simp (config := { maxSteps := 2000000 }) (disch := first | omega | rfl) only [sB, Nat.reduceEqDiff, reduceCtorEq, z0y, ld3, z2h, ld9, z4d, z52, ld23, z17 k1, q1, q2, z15, z27 k2, z27 k3, z31 k4, Bool.not_true, Bool.false_eq_true]) | (refine EvC.condT ?_ ?_; simp (config := { maxSteps := 2000000 }) (disch := first | omega | rfl) only [sB, Nat.reduceEqDiff, reduceCtorEq]; refine z03 ?_))
    exact z04 rfl (by simp only [sB, Nat.reduceEqDiff, reduceCtorEq] <;> rfl) ⟨by rw [z9h (fun h => k4 (by rw [h]))], hx2⟩
  by_cases k5 : t.var = t'.var
  rotate_left
  · repeat' (first | refine EvC.seq ?_ | refine EvC.scope ?_ | refine EvC.block ?_ | (refine EvC.skip ?_) | (refine EvC.exit ?_) | (refine EvC.ret ?_; try simp only [z01, z00]) | (refine EvC.reg ?_; simp (config := { maxSteps := 2000000 }) (disch := first | omega | rfl) only [sB, Nat.reduceEqDiff, reduceCtorEq, z0y, ld3, z2h, ld9, z4d, z52, ld23, z51, z17 k1, q1, q2, z15, z27 k2, z27 k3, z17 k4, z31 k5, Bool.not_true, Bool.false_eq_true]) | (refine EvC.condT ?_ ?_; simp (config := { maxSteps := 2000000 }) (disch := first | omega | rfl) only [sB, Nat.reduceEqDiff, reduceCtorEq]; refine z03 ?_))
    exact z04 rfl (by simp only [sB, Nat.reduceEqDiff, reduceCtorEq] <;> rfl) ⟨by rw [z9h (fun h => k5 (by rw [h]))], hx2⟩
  by_cases k6 : (t.args.length : Int) = t'.args.length
  rotate_left
  · repeat' (first | refine EvC.seq ?_ | refine EvC.scope ?_ | refine EvC.block ?_ | (refine EvC.skip ?_) | (refine EvC.exit ?_) | (refine EvC.ret ?_; try simp only [z01, z00]) | (refine EvC.reg ?_; simp (config := { maxSteps := 2000000 }) (disch := first | omega | rfl) only [sB, Nat.reduceEqDiff, reduceCtorEq, z0y, ld3, z2h, ld9, z4d, z52, ld23, z51, z19, ld24, ln24, z17 k1, q1, q2, z15, z27 k2, z27 k3, z17 k4, z17 k5, z31 k6, Bool.not_true, Bool.false_eq_true]) | (refine EvC.condT ?_ ?_; simp (config := { maxSteps := 2000000 }) (disch := first | omega | rfl) only [sB, Nat.reduceEqDiff, reduceCtorEq]; refine z03 ?_))
    exact z04 rfl (by simp only [sB, Nat.reduceEqDiff, reduceCtorEq] <;> rfl) ⟨by rw [z9h (fun h => k6 (by rw [h]))], hx2⟩
  repeat' (first | refine EvC.seq ?_ | refine EvC.scope ?_ | refine EvC.block ?_ | (refine EvC.skip ?_; try simp only [z02]) | (refine EvC.exit ?_) | (refine EvC.ret ?_; try simp only [z01, z00]) | (refine EvC.reg ?_; simp (config := { maxSteps := 2000000 }) (disch := first | omega | rfl) only [sB, Nat.reduceEqDiff, reduceCtorEq, z0y, ld3, z2h, ld9, z4d, z52, ld23, z51, z19, ld24, ln24, z17 k1, q1, q2, z15, z27 k2, z27 k3, z17 k4, z17 k5, z17 k6, Bool.not_true, Bool.false_eq_true]) | (refine EvC.condT ?_ ?_; simp (config := { maxSteps := 2000000 }) (disch := first | omega | rfl) only [sB, Nat.reduceEqDiff, reduceCtorEq]; refine z03 ?_) | (refine EvC.condF ?_ ?_; simp (config := { maxSteps := 2000000 }) (disch := first | omega | rfl) only [sB, Nat.reduceEqDiff, reduceCtorEq]; refine z03 ?_))
  have hlen : t.args.length = t'.args.length := by omega
  have hm := rl.max
  refine EvC.loop (fun k st => ∃ tm H' i, st = ⟨tm, [], H'⟩ ∧ k = t.args.length - i ∧ i ≤ t.args.length ∧ (∀ j, j < i → t.args[j]? = t'.args[j]?) ∧
      tm.get 2 = some (.pointer (some ⟨H.next, 0, none⟩)) ∧ tm.get 3 = some (.pointer (some ⟨H.next + 1, 0, none⟩)) ∧ tm.get 5 = some (.int .i64 (i : Nat)) ∧
      H'.get H.next = some (.row (six t a c) 26) ∧ H'.get (H.next + 1) = some (.row (six t' a' c') 26) ∧ HX H H') ?_ t.args.length _ ?_
  · rintro k st ⟨tm, H', i, rfl, rfl, hi, hc, t2, t3, t5, gp', gq', hx'⟩
    have q1 := row6 gp'
    have q2 := row6 gq'
    by_cases hlt : i < t.args.length
    · have hlt' : i < t'.args.length := by omega
      obtain ⟨b, o, a1, c1, rfl, hld, hr1⟩ := rl.el hlt
      obtain ⟨b', o', a2, c2, rfl, hld', hr2⟩ := rl'.el hlt'
      have hld1 := hx'.load hw hld
      have hld2 := hx'.load hw hld'
      repeat' (first | refine EvC.seq ?_ | refine EvC.scope ?_ | refine EvC.block ?_ | (refine EvC.skip ?_; try simp only [z02]) | (refine EvC.exit ?_) | (refine EvC.ret ?_; try simp only [z01, z00]) | (refine EvC.reg ?_; simp (config := { maxSteps := 2000000 }) (disch := first | omega | rfl) only [sB, Nat.reduceEqDiff, z19, ld24, ln24, t2, t5, q1, decl hlt]) | (refine EvC.drw [([(0, 0), (1, 0), (2, 0), (3, 0), (4, 0), (5, 0), (6, 0), (7, 0), (8, 0), (9, 0)], some 10), ([(11, 1)], none)] ?_ ?_; kernel_rfl; simp (config := { maxSteps := 2000000 }) (disch := first | omega | rfl) only [sD, sB, Nat.reduceEqDiff, Nat.reduceAdd, reduceCtorEq, z19, ld24, ia24, ld26, cl20, t2, t3, t5, q1, q2, hld1, hld2, isAlloc, isRead, reduceCtorEq]) | (refine EvC.condT ?_ ?_; simp (config := { maxSteps := 2000000 }) (disch := first | omega | rfl) only [sB, Nat.reduceEqDiff]; refine z03 ?_))
      have hb := hx'.bump 12
      have hs := z1q (List.getElem?_eq_getElem hlt)
      refine (ih (t := t.args[i]) (t' := t'.args[i]) (by omega) (hr1.mono hb hw) (hr2.mono hb hw) hb.wf).mono ?_
      rintro v H4 ⟨rfl, hx4⟩
      have hx5 := hb.trans hx4
      by_cases he : t.args[i] = t'.args[i]
      · repeat' (first | refine EvC.seq ?_ | refine EvC.scope ?_ | refine EvC.block ?_ | (refine EvC.skip ?_; try simp only [sA]) | (refine EvC.exit ?_) | (refine EvC.ret ?_; try simp only [z01, z00]) | (refine EvC.reg ?_; simp (config := { maxSteps := 2000000 }) (disch := first | omega | rfl) only [sB, Nat.reduceEqDiff, Bool.not_true, t5, z05]) | (refine z0h ?_; simp (config := { maxSteps := 2000000 }) (disch := first | omega | rfl) only [sD, sB, Nat.reduceEqDiff, zjr he, isAlloc, isRead]) | (refine EvC.condT ?_ ?_; simp (config := { maxSteps := 2000000 }) (disch := first | omega | rfl) only [sB, Nat.reduceEqDiff]; refine z03 ?_) | (refine EvC.condF ?_ ?_; simp (config := { maxSteps := 2000000 }) (disch := first | omega | rfl) only [sB, Nat.reduceEqDiff]; refine z03 ?_))
        refine ⟨t.args.length - (i + 1), by omega, _, _, i + 1, rfl, rfl, by omega, fun j hj => ?_, (by simp only [sG, Nat.reduceEqDiff, t2] <;> rfl), (by simp only [sG, Nat.reduceEqDiff, t3] <;> rfl), (by simp only [sB, Nat.reduceEqDiff] <;> rfl), hx4.get hb.wf gp', hx4.get hb.wf gq', hx5⟩
        by_cases hji : j = i
        · subst hji; rw [List.getElem?_eq_getElem hlt, List.getElem?_eq_getElem hlt', he]
        · exact hc j (by omega)
      · repeat' (first | refine EvC.seq ?_ | refine EvC.scope ?_ | refine EvC.block ?_ | (refine EvC.skip ?_) | (refine EvC.exit ?_) | (refine EvC.ret ?_; try simp only [z01, z00]) | (refine EvC.reg ?_; simp (config := { maxSteps := 2000000 }) (disch := first | omega | rfl) only [sB, Nat.reduceEqDiff, Bool.not_false]) | (refine z0h ?_; simp (config := { maxSteps := 2000000 }) (disch := first | omega | rfl) only [sD, sB, Nat.reduceEqDiff, z9h he, isAlloc, isRead]) | (refine EvC.condT ?_ ?_; simp (config := { maxSteps := 2000000 }) (disch := first | omega | rfl) only [sB, Nat.reduceEqDiff]; refine z03 ?_))
        refine z04 rfl (by simp only [sB, Nat.reduceEqDiff] <;> rfl) ⟨?_, hx5⟩
        rw [z9h]
        rintro rfl
        exact he rfl
    · repeat' (first | refine EvC.seq ?_ | refine EvC.scope ?_ | refine EvC.block ?_ | (refine EvC.skip ?_) | (refine EvC.exit ?_; try simp only [sB]) | (refine EvC.ret ?_; try simp only [z01, z00]) | (refine EvC.reg ?_; simp (config := { maxSteps := 2000000 }) (disch := first | omega | rfl) only [sB, Nat.reduceEqDiff, z19, ld24, ln24, t2, t5, q1, decn hlt]) | (refine EvC.condT ?_ ?_; simp (config := { maxSteps := 2000000 }) (disch := first | omega | rfl) only [sB, Nat.reduceEqDiff]; refine z03 ?_) | (refine EvC.condF ?_ ?_; simp (config := { maxSteps := 2000000 }) (disch := first | omega | rfl) only [sB, Nat.reduceEqDiff]; refine z03 ?_))
      refine z04 rfl (by simp only [sB, Nat.reduceEqDiff] <;> rfl) ⟨?_, hx'⟩
      rw [zjr]
      refine z8e k1 k2 k3 k4 k5 (List.ext_getElem? fun j => ?_)
      by_cases hj : j < i
      · exact hc j hj
      · rw [List.getElem?_eq_none (by omega), List.getElem?_eq_none (by omega)]
  · exact ⟨_, _, 0, rfl, rfl, by omega, by omega, (by simp only [sG, Nat.reduceEqDiff, reduceCtorEq] <;> rfl), (by simp only [sG, Nat.reduceEqDiff, reduceCtorEq] <;> rfl), (by simp only [sB, Nat.reduceEqDiff, reduceCtorEq] <;> rfl), gp, gq, hx2⟩
theorem z5k {t t' : Tm} {cs cs' : List Value} {H : Heap} (r : RepT H t cs) (r' : RepT H t' cs') (hw : H.wf) :
    EvF Tryd.prog okT 20 [.agg ⟨cs⟩, .agg ⟨cs'⟩] H fun v H' => v = .bool (eqT t t') ∧ HX H H' := zmk (Nat.lt_succ_self _) r r' hw
end Go.Proofs.YtlllbkjiadcloaaDoor.hb
end

-- V4
section
namespace Go.Hb
open Go Go.RowKit
def ApV (S : Nat → Prop) (H0 H : Heap) (T : TypeId) (v : Value) (n : Nat) : Prop :=
  (n = 0 ∧ v = .slice none 0 0) ∨ ∃ b cells c, v = .slice (some ⟨b, 0, none⟩) n c ∧ H.get b = some (.row cells T) ∧ n * 6 ≤ cells.length ∧ (cells.take (n * 6)).all one = true ∧ (S b ∨ H0.next ≤ b)
theorem ApV.push {P : Program} {T t : TypeId} (hp : apOk P t T 6) {S : Nat → Prop} {H0 H : Heap} {v : Value} {n c1 : Nat} {ad : Addr} {cs : List Value} (h : ApV S H0 H T v n) (hk : HK S H0 H) (hl : H.load ad (1 * 6) = some cs) (hc : cs.all one = true) (hlc : cs.length = 6) (hm : n + 1 ≤ most) :
    ∃ H2 v2, dAp P #[t, t] v (.slice (some ad) 1 c1) H = some (.val v2 H2) ∧ ApV S H0 H2 T v2 (n + 1) ∧ HK S H0 H2 := by
  rcases h with ⟨rfl, rfl⟩ | ⟨b, cells, c, rfl, hg, hn, ho, hb⟩
  · refine ⟨_, _, z6y hp (by omega) hm hl hc, .inr ⟨H.next, cs, 1, rfl, z0r, by omega, ?_, .inr hk.next⟩, hk.new _⟩
    rw [List.take_of_length_le (by omega)]; exact hc
  · refine ⟨_, _, z6z hp (by omega) hm hl hc hg hn ho, .inr ⟨H.next, _, _, rfl, z0r, ?_, ?_, .inr hk.next⟩, (hk.put hb (hk.wf _ _ hg) none).new _⟩
    · simp; omega
    · rw [List.take_of_length_le (by simp; omega), List.all_append, ho, hc]; rfl
end Go.Hb
namespace Go.Proofs.YtlllbkjiadcloaaDoor.hb
open Go Go.RowKit Go.Hb
variable {ok : Ok}
set_option maxRecDepth 10000
attribute [local irreducible] LX LG EL STG SOP SGO SGD SAL SRD SEF SEG SLK SCK ES
noncomputable def eqL (l l' : List Tm) : Bool := @decide (l = l') (Classical.propDecidable _)
theorem zo4 {t t' : List Tm} (h : t = t') : eqL t t' = true := by unfold eqL; exact @decide_eq_true _ (Classical.propDecidable _) h
theorem zo5 {t t' : List Tm} (h : t ≠ t') : eqL t t' = false := by unfold eqL; exact @decide_eq_false _ (Classical.propDecidable _) h
set_option maxHeartbeats 4000000 in
theorem zcg {l l' : List Tm} {a a' : Option Addr} {c c' : Nat} {cells cells' : Nat → List Value} {H : Heap} (rl : RepL H l a c cells) (rl' : RepL H l' a' c' cells') (hw : H.wf) :
    EvF Tryd.prog okT 42 [.slice a l.length c, .slice a' l'.length c'] H fun v H' => v = .bool (eqL l l') ∧ HX H H' := by
  have hm := rl.max
  refine EvF.enter rfl Tryd.func42 (by decide) rfl ?_
  by_cases k6 : (l.length : Int) = l'.length
  rotate_left
  · repeat' (first | refine EvC.seq ?_ | refine EvC.scope ?_ | refine EvC.block ?_ | (refine EvC.skip ?_) | (refine EvC.exit ?_) | (refine EvC.ret ?_; try simp only [z01, z00]) | (refine EvC.reg ?_; simp (config := { maxSteps := 2000000 }) (disch := first | omega | rfl) only [sB, initTm, Nat.reduceEqDiff, reduceCtorEq, ln24, z31 k6]) | (refine EvC.condT ?_ ?_; simp (config := { maxSteps := 2000000 }) (disch := first | omega | rfl) only [sB, Nat.reduceEqDiff, reduceCtorEq]; refine z03 ?_))
    exact z04 rfl (by simp only [sB, Nat.reduceEqDiff, reduceCtorEq] <;> rfl) ⟨by rw [zo5 (fun h => k6 (by rw [h]))], HX.refl hw⟩
  have hlen : l.length = l'.length := by omega
  repeat' (first | refine EvC.seq ?_ | refine EvC.scope ?_ | refine EvC.block ?_ | (refine EvC.skip ?_; try simp only [z02]) | (refine EvC.exit ?_) | (refine EvC.ret ?_; try simp only [z01, z00]) | (refine EvC.reg ?_; simp (config := { maxSteps := 2000000 }) (disch := first | omega | rfl) only [sB, initTm, Nat.reduceEqDiff, reduceCtorEq, ln24, z17 k6]) | (refine EvC.condT ?_ ?_; simp (config := { maxSteps := 2000000 }) (disch := first | omega | rfl) only [sB, Nat.reduceEqDiff, reduceCtorEq]; refine z03 ?_) | (refine EvC.condF ?_ ?_; simp (config := { maxSteps := 2000000 }) (disch := first | omega | rfl) only [sB, Nat.reduceEqDiff, reduceCtorEq]; refine z03 ?_))
  refine EvC.loop (fun k st => ∃ tm H' i, st = ⟨tm, [], H'⟩ ∧ k = l.length - i ∧ i ≤ l.length ∧ (∀ j : Nat, j < i → l[j]? = l'[j]?) ∧
      tm.get 0 = some (.slice a l.length c) ∧ tm.get 1 = some (.slice a' l'.length c') ∧ tm.get 5 = some (.int .i64 (i : Nat)) ∧ HX H H') ?_ l.length _ ?_
  · rintro k st ⟨tm, H', i, rfl, rfl, hi, hc, t0, t1, t5, hx'⟩
    by_cases hlt : i < l.length
    · have hlt' : i < l'.length := by omega
      obtain ⟨b, o, a1, c1, rfl, hld, hr1⟩ := rl.el hlt
      obtain ⟨b', o', a2, c2, rfl, hld', hr2⟩ := rl'.el hlt'
      have hld1 := hx'.load hw hld
      have hld2 := hx'.load hw hld'
      repeat' (first | refine EvC.seq ?_ | refine EvC.scope ?_ | refine EvC.block ?_ | (refine EvC.skip ?_; try simp only [z02]) | (refine EvC.exit ?_) | (refine EvC.ret ?_; try simp only [z01, z00]) | (refine EvC.reg ?_; simp (config := { maxSteps := 2000000 }) (disch := first | omega | rfl) only [sB, Nat.reduceEqDiff, reduceCtorEq, ln24, t0, t5, decl hlt]) | (refine EvC.drw [([(0, 0), (1, 0), (2, 0), (3, 0), (4, 0), (5, 0), (6, 0), (7, 0)], some 8), ([(9, 1)], none)] ?_ ?_; kernel_rfl; simp (config := { maxSteps := 2000000 }) (disch := first | omega | rfl) only [sD, sB, Nat.reduceEqDiff, Nat.reduceAdd, reduceCtorEq, ia24, ld26, cl20, t0, t1, t5, hld1, hld2, isAlloc, isRead, reduceCtorEq]) | (refine EvC.condT ?_ ?_; simp (config := { maxSteps := 2000000 }) (disch := first | omega | rfl) only [sB, Nat.reduceEqDiff]; refine z03 ?_))
      have hb := hx'.bump 10
      refine (z5k (hr1.mono hb hw) (hr2.mono hb hw) hb.wf).mono ?_
      rintro v H4 ⟨rfl, hx4⟩
      by_cases he : l[i] = l'[i]
      · repeat' (first | refine EvC.seq ?_ | refine EvC.scope ?_ | refine EvC.block ?_ | (refine EvC.skip ?_; try simp only [sA]) | (refine EvC.exit ?_) | (refine EvC.ret ?_; try simp only [z01, z00]) | (refine EvC.reg ?_; simp (config := { maxSteps := 2000000 }) (disch := first | omega | rfl) only [sB, Nat.reduceEqDiff, Bool.not_true, t5, z05]) | (refine z0h ?_; simp (config := { maxSteps := 2000000 }) (disch := first | omega | rfl) only [sD, sB, Nat.reduceEqDiff, zjr he, isAlloc, isRead]) | (refine EvC.condT ?_ ?_; simp (config := { maxSteps := 2000000 }) (disch := first | omega | rfl) only [sB, Nat.reduceEqDiff]; refine z03 ?_) | (refine EvC.condF ?_ ?_; simp (config := { maxSteps := 2000000 }) (disch := first | omega | rfl) only [sB, Nat.reduceEqDiff]; refine z03 ?_))
        refine ⟨l.length - (i + 1), by omega, _, _, i + 1, rfl, rfl, by omega, fun j hj => ?_, (by simp only [sG, reduceCtorEq, t0] <;> rfl), (by simp only [sG, Nat.reduceEqDiff, t1] <;> rfl), (by simp only [sB, Nat.reduceEqDiff] <;> rfl), hb.trans hx4⟩
        by_cases hji : j = i
        · subst hji; rw [List.getElem?_eq_getElem hlt, List.getElem?_eq_getElem hlt', he]
        · exact hc j (by omega)
      · repeat' (first | refine EvC.seq ?_ | refine EvC.scope ?_ | refine EvC.block ?_ | (refine EvC.skip ?_) | (refine EvC.exit ?_) | (refine EvC.ret ?_; try simp only [z01, z00]) | (refine EvC.reg ?_; simp (config := { maxSteps := 2000000 }) (disch := first | omega | rfl) only [sB, Nat.reduceEqDiff, Bool.not_false]) | (refine z0h ?_; simp (config := { maxSteps := 2000000 }) (disch := first | omega | rfl) only [sD, sB, Nat.reduceEqDiff, z9h he, isAlloc, isRead]) | (refine EvC.condT ?_ ?_; simp (config := { maxSteps := 2000000 }) (disch := first | omega | rfl) only [sB, Nat.reduceEqDiff]; refine z03 ?_))
        refine z04 rfl (by simp only [sB, Nat.reduceEqDiff] <;> rfl) ⟨?_, hb.trans hx4⟩
        rw [zo5]
        rintro rfl
        exact he rfl
    · repeat' (first | refine EvC.seq ?_ | refine EvC.scope ?_ | refine EvC.block ?_ | (refine EvC.skip ?_) | (refine EvC.exit ?_; try simp only [sB]) | (refine EvC.ret ?_; try simp only [z01, z00]) | (refine EvC.reg ?_; simp (config := { maxSteps := 2000000 }) (disch := first | omega | rfl) only [sB, Nat.reduceEqDiff, reduceCtorEq, ln24, t0, t5, decn hlt]) | (refine EvC.condT ?_ ?_; simp (config := { maxSteps := 2000000 }) (disch := first | omega | rfl) only [sB, Nat.reduceEqDiff]; refine z03 ?_) | (refine EvC.condF ?_ ?_; simp (config := { maxSteps := 2000000 }) (disch := first | omega | rfl) only [sB, Nat.reduceEqDiff]; refine z03 ?_))
      refine z04 rfl (by simp only [sB, Nat.reduceEqDiff] <;> rfl) ⟨?_, hx'⟩
      rw [zo4]
      refine List.ext_getElem? fun j => ?_
      by_cases hj : j < i
      · exact hc j hj
      · rw [List.getElem?_eq_none (by omega), List.getElem?_eq_none (by omega)]
  · exact ⟨_, _, 0, rfl, rfl, by omega, by omega, (by simp only [sG, reduceCtorEq] <;> rfl), (by simp only [sG, Nat.reduceEqDiff, reduceCtorEq] <;> rfl), (by simp only [sB, Nat.reduceEqDiff, reduceCtorEq] <;> rfl), HX.refl hw⟩
end Go.Proofs.YtlllbkjiadcloaaDoor.hb
end

-- V5
section
namespace Go.Hb
open Go Go.RowKit
section
variable {P : Program} {ok : Ok} {x : Ctx}
theorem zjs {g : FuncId} (h : callable P g = true) : (dcall1 P g []).isNone = false := by
  unfold callable at h
  unfold dcall1
  split at h
  · rename_i fn hfn
    rw [hfn]
    simp only [h, if_true]; rfl
  · cases h
theorem EvC.rangeF {f : Operand} {params : Array Tmp} {assign body : Code} {g : FuncId} {first captured : Array Value} {tm : Tr Value} {ds : List Deferred} {H : Heap} {Q : Ex → St → Prop} (hr : x.round = none)
    (hf : ev tm f = .func (.func g) first captured) (hc : callable P g = true)
    (h : EvF P ok g (first.toList ++ [.func (.yield (H.next + 1)) #[] #[]] ++ captured.toList) ((H.new (some .dfr)).new (some (.loop .ready none x.fn tm params.toList assign body H.next)))
      fun _ H3 => H3.get (H.next + 1) = some (.loop .ready none x.fn tm params.toList assign body H.next) ∧
        Q .normal ⟨tm, { target := .collected H.next, args := #[] } :: ds, H3.put (H.next + 1) (some (.loop .exhausted none x.fn tm params.toList assign body H.next))⟩) :
    EvC P ok x (.rangeFunc f params assign body) ⟨tm, ds, H⟩ Q := by
  obtain ⟨N, ⟨en, H3⟩, h1, v, he, hg, hq⟩ := h
  simp only at he
  subst he
  refine ⟨N + 1, (.normal, ⟨tm, { target := .collected H.next, args := #[] } :: ds, H3.put (H.next + 1) (some (.loop .exhausted none x.fn tm params.toList assign body H.next))⟩), fun n hn => ?_, hq⟩
  obtain ⟨m, rfl⟩ : ∃ m, n = m + 1 := ⟨n - 1, by omega⟩
  have hcall := h1 m (by omega)
  show dcode P ok (m + 1) x (.rangeFunc f params assign body) ⟨tm, ds, H⟩ = _
  rw [dcode]
  simp only [hr, hf, zjs hc, Bool.false_eq_true, if_false]
  have e1 : (H.new (some Blk.dfr)).next = H.next + 1 := rfl
  simp only [e1, hcall, hg]
theorem EvC.rangeG {f : Operand} {params : Array Tmp} {assign body : Code} {g : FuncId} {first captured : Array Value} {tm : Tr Value} {ds : List Deferred} {H : Heap} {Q : Ex → St → Prop} (hr : x.round = none)
    (hf : ev tm f = .func (.func g) first captured) (hc : callable P g = true)
    (h : ∀ R, R = Blk.loop .ready none x.fn tm params.toList assign body H.next → EvF P ok g (first.toList ++ [.func (.yield (H.next + 1)) #[] #[]] ++ captured.toList) ((H.new (some .dfr)).new (some R))
      fun _ H3 => H3.get (H.next + 1) = some R ∧ ∀ B, Q .normal ⟨tm, { target := .collected H.next, args := #[] } :: ds, H3.put (H.next + 1) B⟩) :
    EvC P ok x (.rangeFunc f params assign body) ⟨tm, ds, H⟩ Q := EvC.rangeF hr hf hc ((h _ rfl).mono fun _ _ hq => ⟨hq.1, hq.2 _⟩)
theorem zfj {fn : Func} {tm : Tr Value} {ds : List Deferred} {l : Nat} {args : Array Value} {H : Heap} {K : Value → Heap → Prop} (hg : H.get l = some .dfr) (h : Ex.leave P ok fn K .ret ⟨tm, ds, H.put l none⟩) :
    Ex.leave P ok fn K .ret ⟨tm, ⟨.collected l, args⟩ :: ds, H⟩ := EvV.mark hg h
theorem EvR.go {l : Nat} {args : List Value} {H : Heap} {K : Value → Heap → Prop} {fn : FuncId} {tm : Tr Value} {ps : List Tmp} {aa bo : Code} {dd : Nat} (hg : H.get l = some (.loop .ready none fn tm ps aa bo dd)) (hl : args.length = ps.length)
    (h : EvC P ok ⟨fn, some l⟩ aa ⟨(ps.zip args).foldl (fun t p => t.put p.1 (some p.2)) tm, [], H⟩ fun e st1 => e = .normal ∧ st1.H.get l = some (.loop .ready none fn tm ps aa bo dd) ∧
      EvC P ok ⟨fn, some l⟩ bo ⟨st1.tm, st1.ds, st1.H.put l (some (.loop .busy none fn tm ps aa bo dd))⟩ fun e st2 => e = .normal ∧ st2.H.get l = some (.loop .busy none fn tm ps aa bo dd) ∧
        K (.bool true) (st2.H.put l (some (.loop .ready none fn tm ps aa bo dd)))) : EvR P ok l args H K := by
  obtain ⟨N, ⟨e, st1⟩, h1, he, hg1, N2, ⟨e2, st2⟩, h2, he2, hg2, hk⟩ := h
  simp only at he he2
  subst he he2
  refine ⟨max N N2 + 1, (.bool true, st2.H.put l (some (.loop .ready none fn tm ps aa bo dd))), fun n hn => ?_, hk⟩
  obtain ⟨m, rfl⟩ : ∃ m, n = m + 1 := ⟨n - 1, by omega⟩
  have c1 := h1 m (by omega)
  have c2 := h2 m (by omega)
  have hb : Nat.beq args.length ps.length = true := by rw [Nat.beq_eq]; exact hl
  simp only at hg1 hg2 c2
  show dround P ok (m + 1) l args H = _
  rw [dround]
  simp only [hg, hb, if_true, c1, hg1, c2, dendRound, hg2]
theorem EvR.mono {l : Nat} {args : List Value} {H : Heap} {K L : Value → Heap → Prop} (h : EvR P ok l args H K) (k : ∀ v H', K v H' → L v H') : EvR P ok l args H L := Upon.mono h fun _ hq => k _ _ hq
end
end Go.Hb
end

-- V6
section
namespace Go.Proofs.YtlllbkjiadcloaaDoor.hb
open Go Go.RowKit Go.Hb
variable {ok : Ok}
set_option maxRecDepth 10000
attribute [local irreducible] LX LG EL STG SOP SGO SGD SAL SRD SEF SEG SLK SCK ES
set_option maxHeartbeats 2000000 in
theorem zo6 {x y : Int} {c p : Nat} {H : Heap} (h0 : H.load ⟨p, 0, none⟩ 1 = some [.int .i64 x]) (h1 : H.load ⟨p, 1, none⟩ 1 = some [.int .i64 y]) :
    EvF Tryd.prog okT 60 [.slice (some ⟨p, 0, none⟩) 2 c] H fun v H' => v = .int .i64 (orZ x y) ∧ H' = H := by
  refine EvF.enter rfl Tryd.func60 (by decide) rfl ?_
  repeat' (first | refine EvC.seq ?_ | refine EvC.scope ?_ | refine EvC.block ?_ | (refine EvC.skip ?_) | (refine EvC.exit ?_) | (refine EvC.ret ?_; try simp only [z01, z00]) | (refine EvC.reg ?_; simp (config := { maxSteps := 2000000 }) (disch := first | omega | rfl) only [sB, initTm, Nat.reduceEqDiff, reduceCtorEq, zoc]))
  refine EvC.loop (fun k st => ∃ tm i, st = ⟨tm, [], H⟩ ∧ k = 2 - i ∧ i ≤ 2 ∧ (0 < i → x = 0) ∧ (1 < i → y = 0) ∧ tm.get 3 = some (.int .i64 0) ∧ tm.get 6 = some (.slice (some ⟨p, 0, none⟩) 2 c) ∧ tm.get 7 = some (.int .i64 (2 : Nat)) ∧ tm.get 8 = some (.int .i64 (i : Nat))) ?_ 2 _ ?_
  · rintro k st ⟨tm, i, rfl, rfl, hi, hx, hy, g3, g6, g7, g8⟩
    by_cases h2 : i = 2
    · subst h2
      repeat' (first | refine EvC.seq ?_ | refine EvC.scope ?_ | refine EvC.block ?_ | (refine EvC.skip ?_) | (refine EvC.exit ?_; try simp only [sB]) | (refine EvC.ret ?_; try simp only [z01, z00]) | (refine EvC.reg ?_; simp (config := { maxSteps := 2000000 }) (disch := first | omega | rfl) only [sB, Nat.reduceEqDiff, g3, g7, g8, decide_eq_false]) | (refine EvC.condT ?_ ?_; simp (config := { maxSteps := 2000000 }) (disch := first | omega | rfl) only [sB]; refine z03 ?_) | (refine EvC.condF ?_ ?_; simp (config := { maxSteps := 2000000 }) (disch := first | omega | rfl) only [sB]; refine z03 ?_))
      exact z04 rfl (by simp only [sB, Nat.reduceEqDiff] <;> rfl) ⟨by simp [orZ, hx, hy], rfl⟩
    · have hl : ∃ z, H.load ⟨p, i, none⟩ 1 = some [.int .i64 z] ∧ z = if i = 0 then x else y := by
        by_cases h0' : i = 0
        · subst h0'; exact ⟨x, h0, rfl⟩
        · have : i = 1 := by omega
          subst this; exact ⟨y, h1, rfl⟩
      obtain ⟨z, hl, hz⟩ := hl
      by_cases hz0 : z = 0
      · repeat' (first | refine EvC.seq ?_ | refine EvC.scope ?_ | refine EvC.block ?_ | (refine EvC.skip ?_; try simp only [sA]) | (refine EvC.exit ?_) | (refine EvC.ret ?_; try simp only [z01, z00]) | (refine EvC.reg ?_; simp (config := { maxSteps := 2000000 }) (disch := first | omega | rfl) only [sB, Nat.reduceEqDiff, zng, ld28, g3, g6, g7, g8, hl, z17 hz0, decide_eq_true, z05]) | (refine EvC.condT ?_ ?_; simp (config := { maxSteps := 2000000 }) (disch := first | omega | rfl) only [sB, Nat.reduceEqDiff]; refine z03 ?_) | (refine EvC.condF ?_ ?_; simp (config := { maxSteps := 2000000 }) (disch := first | omega | rfl) only [sB, Nat.reduceEqDiff]; refine z03 ?_))
        exact ⟨2 - (i + 1), by omega, _, i + 1, rfl, rfl, by omega, fun _ => by
          by_cases h0' : i = 0
          · rw [hz, if_pos h0'] at hz0; exact hz0
          · exact hx (by omega), fun h => by
          rw [hz, if_neg (by omega)] at hz0; exact hz0, (by simp only [sG, Nat.reduceEqDiff, g3] <;> rfl), (by simp only [sG, Nat.reduceEqDiff, g6] <;> rfl), (by simp only [sG, Nat.reduceEqDiff, g7] <;> rfl), (by simp only [sB, Nat.reduceEqDiff] <;> rfl)⟩
      · repeat' (first | refine EvC.seq ?_ | refine EvC.scope ?_ | refine EvC.block ?_ | (refine EvC.skip ?_; try simp only [z02]) | (refine EvC.exit ?_) | (refine EvC.ret ?_; try simp only [z01, z00]) | (refine EvC.reg ?_; simp (config := { maxSteps := 2000000 }) (disch := first | omega | rfl) only [sB, Nat.reduceEqDiff, zng, ld28, g3, g6, g7, g8, hl, z31 hz0, decide_eq_true]) | (refine EvC.condT ?_ ?_; simp (config := { maxSteps := 2000000 }) (disch := first | omega | rfl) only [sB, Nat.reduceEqDiff]; refine z03 ?_))
        refine z04 rfl (by simp only [sB, Nat.reduceEqDiff] <;> rfl) ⟨?_, rfl⟩
        by_cases h0' : i = 0
        · rw [if_pos h0'] at hz; subst hz; simp [orZ, hz0]
        · rw [if_neg h0'] at hz; subst hz; simp [orZ, hx (by omega)]
  · exact ⟨_, 0, rfl, rfl, by omega, by omega, by omega, (by simp only [sG, Nat.reduceEqDiff, reduceCtorEq] <;> rfl), (by simp only [sG, Nat.reduceEqDiff, reduceCtorEq] <;> rfl), (by simp only [sG, Nat.reduceEqDiff, reduceCtorEq] <;> rfl), (by simp only [sB, Nat.reduceEqDiff, reduceCtorEq] <;> rfl)⟩
set_option maxHeartbeats 2000000 in
theorem zch {lst : List Tm} {a : Option Addr} {c p l : Nat} {cells : Nat → List Value} {I : Nat → Heap → Prop} {H : Heap} (h1 : ∀ i H, I i H → H.get p = some (.row [.slice a lst.length c] 24) ∧ RepL H lst a c cells)
    (h2 : ∀ i H, i < lst.length → I (i + 1) H → EvR Tryd.prog okT l [.int .i64 (i : Nat), .agg ⟨cells i⟩] H fun v H' => v = .bool true ∧ I i H') (h : I lst.length H) :
    EvF Tryd.prog okT 92 [.func (.yield l) #[] #[], .pointer (some ⟨p, 0, none⟩)] H fun _ H' => I 0 H' := by
  refine EvF.enter rfl Tryd.func92 (by decide) rfl ?_
  obtain ⟨gp, rl⟩ := h1 _ _ h
  have lp : H.load ⟨p, 0, none⟩ 1 = some [.slice a lst.length c] := by unfold Heap.load Heap.cells; simp only [gp]; rfl
  have hm := rl.max
  (repeat refine EvC.seq ?_); refine EvC.reg ?_; simp (config := { maxSteps := 2000000 }) (disch := first | omega | rfl) only [sB, initTm, Nat.reduceEqDiff, reduceCtorEq, ld24, ln24, lp, z05]
  refine EvC.block (EvC.loop (fun k st => ∃ tm H' , st = ⟨tm, [], H'⟩ ∧ k ≤ lst.length ∧ tm.get 0 = some (.func (.yield l) #[] #[]) ∧ tm.get 1 = some (.pointer (some ⟨p, 0, none⟩)) ∧ tm.get 3 = some (.int .i64 ((k : Nat) - 1 : Int)) ∧ I k H') ?_ lst.length _ ?_)
  · rintro k st ⟨tm, H', rfl, hk, t0, t1, t3, hI⟩
    cases k with
    | zero =>
      have hd : decide ((((0 : Nat) : Int) - 1) ≥ 0) = false := by decide
      repeat' (first | refine EvC.seq ?_ | refine EvC.scope ?_ | refine EvC.block ?_ | (refine EvC.skip ?_) | (refine EvC.exit ?_; try simp only [sB]) | (refine EvC.ret ?_; try simp only [z01, z00]) | (refine EvC.reg ?_; simp (config := { maxSteps := 2000000 }) (disch := first | omega | rfl) only [sB, t3, hd]) | (refine EvC.condT ?_ ?_; simp (config := { maxSteps := 2000000 }) (disch := first | omega | rfl) only [sB, Nat.reduceEqDiff]; refine z03 ?_) | (refine EvC.condF ?_ ?_; simp (config := { maxSteps := 2000000 }) (disch := first | omega | rfl) only [sB, Nat.reduceEqDiff]; refine z03 ?_))
      exact z0l rfl hI
    | succ k =>
      have e : (((k + 1 : Nat) : Int) - 1) = (k : Nat) := by omega
      rw [e] at t3
      have hd : decide (((k : Nat) : Int) ≥ 0) = true := decide_eq_true (by omega)
      obtain ⟨gp', rl'⟩ := h1 _ _ hI
      have lp' : H'.load ⟨p, 0, none⟩ 1 = some [.slice a lst.length c] := by unfold Heap.load Heap.cells; simp only [gp']; rfl
      obtain ⟨b, o, rfl, hl, -⟩ := rl'.at (List.getElem?_eq_getElem (show k < lst.length by omega))
      repeat' (first | refine EvC.seq ?_ | refine EvC.scope ?_ | refine EvC.block ?_ | (refine EvC.skip ?_; try simp only [z02]) | (refine EvC.exit ?_) | (refine EvC.ret ?_; try simp only [z01, z00]) | (refine EvC.reg ?_; simp (config := { maxSteps := 2000000 }) (disch := first | omega | rfl) only [sB, Nat.reduceEqDiff, reduceCtorEq, ld24, ia24, ld26, t0, t1, t3, hd, lp', hl, z0o, zaa]) | (refine EvC.condT ?_ ?_; simp (config := { maxSteps := 2000000 }) (disch := first | omega | rfl) only [sB, Nat.reduceEqDiff]; refine z03 ?_))
      refine (h2 k H' (by omega) hI).mono ?_
      rintro v H2 ⟨rfl, hI2⟩
      repeat' (first | refine EvC.seq ?_ | refine EvC.scope ?_ | refine EvC.block ?_ | (refine EvC.skip ?_; try simp only [sA]) | (refine EvC.exit ?_) | (refine EvC.ret ?_; try simp only [z01, z00]) | (refine EvC.reg ?_; simp (config := { maxSteps := 2000000 }) (disch := first | omega | rfl) only [sB, Nat.reduceEqDiff, t3, z05]) | (refine z0t ?_; simp (config := { maxSteps := 2000000 }) (disch := first | omega | rfl) only [sA, Bool.not_true]) | (refine EvC.condT ?_ ?_; simp (config := { maxSteps := 2000000 }) (disch := first | omega | rfl) only [sB, Nat.reduceEqDiff]; refine z03 ?_) | (refine EvC.condF ?_ ?_; simp (config := { maxSteps := 2000000 }) (disch := first | omega | rfl) only [sB, Nat.reduceEqDiff]; refine z03 ?_))
      exact ⟨k, by omega, _, _, rfl, by omega, (by simp only [sG, reduceCtorEq, t0] <;> rfl), (by simp only [sG, Nat.reduceEqDiff, t1] <;> rfl), (by simp only [sG, Nat.reduceEqDiff] <;> rfl), hI2⟩
  · exact ⟨_, _, rfl, Nat.le_refl _, (by simp only [sG, reduceCtorEq] <;> rfl), (by simp only [sG, Nat.reduceEqDiff, reduceCtorEq] <;> rfl), (by simp only [sG, Nat.reduceEqDiff, reduceCtorEq] <;> rfl), h⟩
end Go.Proofs.YtlllbkjiadcloaaDoor.hb
end

-- V7
section
namespace Go.Proofs.YtlllbkjiadcloaaDoor.hb
open Go Go.RowKit Go.Hb
variable {ok : Ok}
set_option maxRecDepth 10000
attribute [local irreducible] LX LG EL STG SOP SGO SGD SAL SRD SEF SEG SLK SCK ES
abbrev dot : ByteArray := ⟨#[46]⟩
def zeroT : Tm := .mk 0 ByteArray.empty ByteArray.empty 0 0 []
def listed (l : List Tm) (e : Tm) : Tm := l.foldr (fun t u => .mk 5 dot ByteArray.empty 0 0 [t, u]) e
def totN : List Tm → Nat → Nat
  | [], n => n
  | t :: l, n => if 4000 < n then n else totN l (n + (1 + cnt t 0))
def listE (l : List Tm) (e : Tm) : Int := if orZ (chkL l) (checkS e) = 0 then (if 4000 < totN l (cnt e 0) then 24 else 0) else orZ (chkL l) (checkS e)
def listT (l : List Tm) (e : Tm) : Tm := if listE l e = 0 then listed l e else zeroT
theorem zhk {l : List Tm} {n : Nat} (h : 4000 < n) : totN l n = n := by
  cases l with
  | nil => rw [totN]
  | cons t l => rw [totN, if_pos h]
theorem zhl {l : List Tm} {i n : Nat} (h : i < l.length) (hn : n ≤ 4000) : totN (l.drop i) n = totN (l.drop (i + 1)) (n + (1 + cnt l[i] 0)) := by
  rw [List.drop_eq_getElem_cons h, totN, if_neg (by omega)]
theorem zml (t : Tm) : 1 ≤ cnt t 0 := by
  have mono : ∀ (l : List Tm), (∀ t ∈ l, ∀ n, n ≤ cnt t n) → ∀ n, n ≤ cntL l n := by
    intro l
    induction l with
    | nil => intro _ n; rw [cntL]; exact Nat.le_refl _
    | cons t l ih =>
      intro h n
      rw [cntL]
      split
      · exact Nat.le_refl _
      · exact Nat.le_trans (h t (by simp) n) (ih (fun u hu => h u (List.mem_cons_of_mem _ hu)) _)
  have key : ∀ (m : Nat) (t : Tm), SizeOf.sizeOf t < m → ∀ n, n + 1 ≤ cnt t n := by
    intro m
    induction m with
    | zero => intro t h; omega
    | succ m ih =>
      intro t h n
      rw [z44]
      exact mono _ (fun u hu k => by have := ih u (by have := z0d hu; omega) k; omega) _
  exact key _ t (Nat.lt_succ_self _) 0
theorem z9i (t : Tm) : cnt t 0 ≤ 4001 := ze5 _ t (Nat.lt_succ_self _) 0 (by omega)
theorem z7f {H : Heap} {T : TypeId} {S : Nat → Prop} : RepF H T S zeroT zero6 :=
  ⟨none, 0, rfl, ⟨by simp [i64, zeroT, Tm.kind], by simp [zeroT, Tm.name, maxLen], by simp [zeroT, Tm.num, maxLen], by simp [u64, zeroT, Tm.bits], by simp [i64, zeroT, Tm.var]⟩, .nil _⟩
theorem zmm {t u : Tm} : Bd (.mk 5 dot ByteArray.empty 0 0 [t, u]) :=
  ⟨by simp [i64, Tm.kind], by simp [Tm.name, maxLen, ByteArray.size], by simp [Tm.num, maxLen], by simp [u64, Tm.bits], by simp [i64, Tm.var]⟩
theorem FL.pair {H : Heap} {T : TypeId} {S S1 S2 : Nat → Prop} {t u : Tm} {a a' : Option Addr} {c c' b : Nat} (h1 : FL H T S1 t.args a c) (h2 : FL H T S2 u.args a' c') (b1 : Bd t) (b2 : Bd u) (hg : H.get b = some (.row (six t a c ++ six u a' c') T))
    (hb : S b) (hb1 : ¬ S1 b) (hb2 : ¬ S2 b) (hs1 : ∀ n, S1 n → S n) (hs2 : ∀ n, S2 n → S n) (hd : ∀ n, S1 n → ¬ S2 n) : FL H T S [t, u] (some ⟨b, 0, none⟩) 2 := by
  refine .row S [t, u] b 2 _ (fun i => if i = 0 then S1 else S2) (fun i => if i = 0 then a else a') (fun i => if i = 0 then c else c') (Nat.le_refl _) (by simp [maxLen]) hg (Nat.le_refl _) ?_ ?_ hb ?_ ?_ ?_ ?_
  · intro i v hv
    match i, hv with
    | 0, hv => cases hv; rfl
    | 1, hv => cases hv; rfl
  · intro i v hv
    match i, hv with
    | 0, hv => cases hv; exact b1
    | 1, hv => cases hv; exact b2
  · intro i hi
    match i, hi with
    | 0, _ => exact hb1
    | 1, _ => exact hb2
  · intro i n hi hn
    match i, hi with
    | 0, _ => exact hs1 n hn
    | 1, _ => exact hs2 n hn
  · intro i j n hi hj hn hm
    match i, j, hi, hj with
    | 0, 0, _, _ => rfl
    | 1, 1, _, _ => rfl
    | 0, 1, _, _ => exact absurd hm (hd n hn)
    | 1, 0, _, _ => exact absurd hn (hd n hm)
  · intro i v hv
    match i, hv with
    | 0, hv => cases hv; exact h1
    | 1, hv => cases hv; exact h2
theorem zjt {a : Option Addr} {n c : Nat} {H : Heap} (hw : H.wf) : EvF Tryd.prog okT 62 [.slice a n c] H fun v H' =>
    v = .func (.func 92) #[] #[.pointer (some ⟨H.next, 0, none⟩)] ∧ H'.get H.next = some (.row [.slice a n c] 24) ∧ H'.next = H.next + 1 ∧ HX H H' := by
  refine EvF.enter rfl Tryd.func62 (by decide) rfl ?_
  repeat' (first | refine EvC.seq ?_ | refine EvC.scope ?_ | refine EvC.block ?_ | (refine EvC.skip ?_) | (refine EvC.exit ?_) | (refine EvC.ret ?_; try simp only [z01, z00]) | (refine EvC.reg ?_; simp (config := { maxSteps := 2000000 }) (disch := first | omega | rfl) only [sB, initTm, dBox, Nat.reduceEqDiff, Value.cells, one, reduceCtorEq]))
  obtain ⟨H2, e2, hx2, g2, hn2, hw2⟩ := new1 hw (.row [.slice a n c] 24)
  simp only [e2]
  exact z04 rfl (by simp only [sB, Nat.reduceEqDiff, reduceCtorEq] <;> rfl) ⟨by simp [zgb, Tr.get_put], g2, hn2, hx2⟩
set_option maxHeartbeats 8000000 in
theorem zmn {l : List Tm} {e : Tm} {a : Option Addr} {c : Nat} {cells : Nat → List Value} {cs : List Value} {H : Heap} (rl : RepL H l a c cells) (r : RepT H e cs) (hw : H.wf) :
    EvF Tryd.prog okT 21 [.slice a l.length c, .agg ⟨cs⟩] H fun v H' => ∃ out, v = .tuple #[.agg ⟨out⟩, .int .i64 (listE l e)] ∧ RepF H' 26 (Rg H.next H'.next) (listT l e) out ∧ HX H H' := by
  have r0 := r
  obtain ⟨ae, ce, cellse, rfl, -⟩ := r.six
  have hmx := rl.max
  refine EvF.enter rfl Tryd.func21 (by decide) rfl ?_
  (repeat refine EvC.seq ?_); refine EvC.reg ?_; simp (config := { maxSteps := 2000000 }) (disch := first | omega | rfl) only [sB, initTm, dBox, dAlloc, Value.cells, one, reduceCtorEq, zr26]
  obtain ⟨H2, e2, hx2, gp, gq, hn2, hw2⟩ := new2 hw (.row (six e ae ce) 26) (.row zero6 26)
  simp only [e2]
  clear e2
  have q1 := row6 gp
  repeat' (first | refine EvC.seq ?_ | refine EvC.scope ?_ | refine EvC.block ?_ | (refine EvC.skip ?_) | (refine EvC.exit ?_) | (refine EvC.ret ?_; try simp only [z01, z00]) | (refine EvC.drw (id := 1) [([(0, 0)], some 1), ([(2, 0)], some 3), ([(4, 2)], some 5), ([(6, 3)], none)] ?_ ?_; kernel_rfl; simp (config := { maxSteps := 2000000 }) (disch := first | omega | rfl) only [sD, sB, Nat.reduceEqDiff, Nat.reduceAdd, reduceCtorEq, cl52, isAlloc, isRead, reduceCtorEq]))
  have hxb := hx2.bump 7
  refine (zaz (rl.mono hxb hw) hxb.wf).mono ?_
  rintro v H3 ⟨rfl, hx3⟩
  have hx23 := hxb.trans hx3
  have q1' := row6 (hx3.get hxb.wf (show Heap.get ⟨H2.next + 7, H2.t⟩ H.next = some (.row (six e ae ce) 26) from gp))
  repeat' (first | refine EvC.seq ?_ | refine EvC.scope ?_ | refine EvC.block ?_ | (refine EvC.skip ?_) | (refine EvC.exit ?_) | (refine EvC.ret ?_; try simp only [z01, z00]) | (refine z0h ?_; simp (config := { maxSteps := 2000000 }) (disch := first | omega | rfl) only [sV, sD, sB, Nat.reduceEqDiff, reduceCtorEq, ld26, cl15, q1, q1', isAlloc, isRead, reduceCtorEq]))
  refine (z2j e _ _ (r0.mono hx23 hw) hx23.wf).mono ?_
  rintro v H4 ⟨rfl, hx4⟩
  have hx24 := hx23.trans hx4
  have hlt4 : H2.next + 4 < H4.next := by have h1 := hx4.next; have h2 : H2.next + 7 ≤ H3.next := hx3.next; omega
  repeat' (first | refine EvC.seq ?_ | refine EvC.scope ?_ | refine EvC.block ?_ | (refine EvC.skip ?_) | (refine EvC.exit ?_) | (refine EvC.ret ?_; try simp only [z01, z00]) | (refine z0h ?_; simp (config := { maxSteps := 2000000 }) (disch := first | omega | rfl) only [sD, sB, Nat.reduceEqDiff, Nat.reduceAdd, Value.cells, one, reduceCtorEq, Nat.reduceLeDiff, layC, zlr, cl60, isAlloc, dalloc, reduceCtorEq]))
  obtain ⟨H5, e5⟩ : ∃ H5, H4.put (H2.next + 4) (some (.row [.int .i64 (chkL l), .int .i64 (checkS e)] 28)) = H5 := ⟨_, rfl⟩
  have hx5 : HX H H5 := by rw [← e5]; exact hx24.put (by omega) hlt4 _
  have g5 : H5.get (H2.next + 4) = some (.row [.int .i64 (chkL l), .int .i64 (checkS e)] 28) := by rw [← e5, get_put, if_pos rfl]
  have gp5 : H5.get H.next = some (.row (six e ae ce) 26) := by
    rw [← e5, get_put, if_neg (by omega)]; exact hx4.get hx23.wf (hx3.get hxb.wf (show Heap.get ⟨H2.next + 7, H2.t⟩ H.next = some (.row (six e ae ce) 26) from gp))
  have gq5 : H5.get (H.next + 1) = some (.row zero6 26) := by
    rw [← e5, get_put, if_neg (by omega)]; exact hx4.get hx23.wf (hx3.get hxb.wf (show Heap.get ⟨H2.next + 7, H2.t⟩ (H.next + 1) = some (.row zero6 26) from gq))
  simp only [e5]
  refine (zo6 (row2 g5).1 (row2 g5).2).mono ?_
  rintro v H5' ⟨rfl, rfl⟩
  have q1 := row6 gp5
  by_cases hE : orZ (chkL l) (checkS e) = 0
  rotate_left
  · repeat' (first | refine EvC.seq ?_ | refine EvC.scope ?_ | refine EvC.block ?_ | (refine EvC.skip ?_) | (refine EvC.exit ?_) | (refine EvC.ret ?_; try simp only [z01, z00]) | (refine EvC.reg ?_; simp (config := { maxSteps := 2000000 }) (disch := first | omega | rfl) only [sB, Nat.reduceEqDiff, Nat.reduceAdd, Value.cells, one, reduceCtorEq, layC, bd26, st26, z31 hE, gq5]) | (refine z0h ?_; simp (config := { maxSteps := 2000000 }) (disch := first | omega | rfl) only [sD, sB, Nat.reduceEqDiff, Nat.reduceAdd, reduceCtorEq, isAlloc, isRead, reduceCtorEq]) | (refine EvC.condT ?_ ?_; simp (config := { maxSteps := 2000000 }) (disch := first | omega | rfl) only [sB, Nat.reduceEqDiff, reduceCtorEq]; refine z03 ?_))
    refine z0b rfl (by simp only [sB, Nat.reduceEqDiff, reduceCtorEq] <;> rfl) (by simp only [sB, Nat.reduceAdd, cutC, ld26] <;> rfl) (by simp only [sB, Nat.reduceEqDiff, reduceCtorEq] <;> rfl) ⟨zero6, ?_, ?_, hx5.pt (by omega) gq5 _⟩
    · rw [listE, if_neg hE]
    · rw [listT, listE, if_neg hE, if_neg hE]; exact z7f
  repeat' (first | refine EvC.seq ?_ | refine EvC.scope ?_ | refine EvC.block ?_ | (refine EvC.skip ?_; try simp only [z02]) | (refine EvC.exit ?_) | (refine EvC.ret ?_; try simp only [z01, z00]) | (refine EvC.reg ?_; simp (config := { maxSteps := 2000000 }) (disch := first | omega | rfl) only [sB, Nat.reduceEqDiff, reduceCtorEq, ld26, cl13, z17 hE, q1]) | (refine z0h ?_; simp (config := { maxSteps := 2000000 }) (disch := first | omega | rfl) only [sD, sB, Nat.reduceEqDiff, Nat.reduceAdd, reduceCtorEq, isAlloc, isRead, reduceCtorEq]) | (refine EvC.condT ?_ ?_; simp (config := { maxSteps := 2000000 }) (disch := first | omega | rfl) only [sB, Nat.reduceEqDiff, reduceCtorEq]; refine z03 ?_) | (refine EvC.condF ?_ ?_; simp (config := { maxSteps := 2000000 }) (disch := first | omega | rfl) only [sB, Nat.reduceEqDiff, reduceCtorEq]; refine z03 ?_))
  refine (z2i e _ _ (r0.mono hx5 hw) hx5.wf).mono ?_
  rintro v H6 ⟨rfl, hx6⟩
  have gp6 := hx6.get hx5.wf gp5
  have gq6 := hx6.get hx5.wf gq5
  have hx6 := hx5.trans hx6
  have hcl : chkL l = 0 := (z1r.1 hE).1
  have hce : checkS e = 0 := (z1r.1 hE).2
  (repeat refine EvC.seq ?_); refine EvC.reg ?_; simp (config := { maxSteps := 2000000 }) (disch := first | omega | rfl) only [sB, Nat.reduceEqDiff, reduceCtorEq, ln24]
  refine EvC.meet (fun st => ∃ tm H', st = ⟨tm, [], H'⟩ ∧ tm.get 0 = some (.slice a l.length c) ∧ tm.get 3 = some (.pointer (some ⟨H.next, 0, none⟩)) ∧ tm.get 4 = some (.pointer (some ⟨H.next + 1, 0, none⟩)) ∧
      tm.get 7 = some (.int .i64 (totN l (cnt e 0) : Nat)) ∧ H'.get H.next = some (.row (six e ae ce) 26) ∧ H'.get (H.next + 1) = some (.row zero6 26) ∧ HX H H') ?_ ?_
  · refine EvC.block (EvC.loop (fun k st => ∃ tm H' i n, st = ⟨tm, [], H'⟩ ∧ k = l.length - i ∧ i ≤ l.length ∧ n ≤ 8002 ∧ totN (l.drop i) n = totN l (cnt e 0) ∧ tm.get 0 = some (.slice a l.length c) ∧ tm.get 3 = some (.pointer (some ⟨H.next, 0, none⟩)) ∧ tm.get 4 = some (.pointer (some ⟨H.next + 1, 0, none⟩)) ∧
      tm.get 7 = some (.int .i64 (n : Nat)) ∧ tm.get 25 = some (.slice a l.length c) ∧ tm.get 26 = some (.int .i64 l.length) ∧ tm.get 27 = some (.int .i64 (i : Nat)) ∧ H'.get H.next = some (.row (six e ae ce) 26) ∧ H'.get (H.next + 1) = some (.row zero6 26) ∧ HX H H') ?_ l.length _ ?_)
    · rintro k st ⟨tm, H', i, n, rfl, rfl, hi, hn8, htot, t0, t3, t4, t7, t25, t26, t27, gp', gq', hx'⟩
      by_cases hlt : i < l.length
      · obtain ⟨b, o, a1, c1, rfl, hld, hr1⟩ := rl.el hlt
        have hld1 := hx'.load hw hld
        by_cases hov : 4000 < n
        · have hd : decide ((n : Int) > 4000) = true := decide_eq_true (by omega)
          repeat' (first | refine EvC.seq ?_ | refine EvC.scope ?_ | refine EvC.block ?_ | (refine EvC.skip ?_; try simp only [z02]) | (refine EvC.exit ?_; try simp only [sB, reduceCtorEq]) | (refine EvC.ret ?_; try simp only [z01, z00]) | (refine EvC.reg ?_; simp (config := { maxSteps := 2000000 }) (disch := first | omega | rfl) only [sB, dAlloc, Nat.reduceEqDiff, Nat.reduceAdd, one, zr26, ld26, st26, ia24, t25, t26, t27, decl hlt, hld1, t7, hd]) | (refine EvC.condT ?_ ?_; simp (config := { maxSteps := 2000000 }) (disch := first | omega | rfl) only [sB, Nat.reduceEqDiff]; refine z03 ?_))
          obtain ⟨H7, e7, hx7, g7, hn7, hw7⟩ := z0u hx'.wf (.row zero6 26) (.row (six l[i] a1 c1) 26)
          refine ⟨_, _, rfl, (by simp only [sG, reduceCtorEq, t0] <;> rfl), (by simp only [sG, Nat.reduceEqDiff, t3] <;> rfl), (by simp only [sG, Nat.reduceEqDiff, t4] <;> rfl), by rw [← htot, zhk hov]; first | (simp only [sG, Nat.reduceEqDiff, t7]; rfl) | simp only [sG, Nat.reduceEqDiff, t7], ?_, ?_, ?_⟩
          · rw [e7]; exact hx7.get hx'.wf gp'
          · rw [e7]; exact hx7.get hx'.wf gq'
          · rw [e7]; exact hx'.trans hx7
        · have hd : decide ((n : Int) > 4000) = false := decide_eq_false (by omega)
          repeat' (first | refine EvC.seq ?_ | refine EvC.scope ?_ | refine EvC.block ?_ | (refine EvC.skip ?_; try simp only [z02]) | (refine EvC.exit ?_) | (refine EvC.ret ?_; try simp only [z01, z00]) | (refine EvC.reg ?_; simp (config := { maxSteps := 2000000 }) (disch := first | omega | rfl) only [sB, dAlloc, Nat.reduceEqDiff, Nat.reduceAdd, one, cutC, zr26, ld26, st26, cl13, ia24, t25, t26, t27, decl hlt, hld1, t7, hd]) | (refine EvC.condT ?_ ?_; simp (config := { maxSteps := 2000000 }) (disch := first | omega | rfl) only [sB, Nat.reduceEqDiff]; refine z03 ?_) | (refine EvC.condF ?_ ?_; simp (config := { maxSteps := 2000000 }) (disch := first | omega | rfl) only [sB, Nat.reduceEqDiff]; refine z03 ?_))
          obtain ⟨H7, e7, hx7, g7, hn7, hw7⟩ := z0u hx'.wf (.row zero6 26) (.row (six l[i] a1 c1) 26)
          simp only [e7]
          refine (z2i l[i] _ _ (hr1.mono (hx'.trans hx7) hw) hw7).mono ?_
          rintro v H8 ⟨rfl, hx8⟩
          have hx78 := hx7.trans hx8
          have hcap := z9i l[i]
          repeat' (first | refine EvC.seq ?_ | refine EvC.scope ?_ | refine EvC.block ?_ | (refine EvC.skip ?_) | (refine EvC.exit ?_) | (refine EvC.ret ?_; try simp only [z01, z00]) | (refine EvC.reg ?_; simp (config := { maxSteps := 2000000 }) (disch := first | omega | rfl) only [sB, Nat.reduceEqDiff, t27, z05]) | (refine z0t ?_; simp (config := { maxSteps := 2000000 }) (disch := first | omega | rfl) only [sB, Nat.reduceEqDiff, z05]))
          exact ⟨l.length - (i + 1), by omega, _, _, i + 1, n + (1 + cnt l[i] 0), rfl, rfl, by omega, by omega, by rw [← htot, zhl hlt (by omega)], (by simp only [sG, reduceCtorEq, t0] <;> rfl), (by simp only [sG, Nat.reduceEqDiff, t3] <;> rfl), (by simp only [sG, Nat.reduceEqDiff, t4] <;> rfl), (by simp only [sB, Nat.reduceEqDiff] <;> rfl), (by simp only [sG, Nat.reduceEqDiff, t25] <;> rfl), (by simp only [sG, Nat.reduceEqDiff, t26] <;> rfl), (by simp only [sB, Nat.reduceEqDiff] <;> rfl), hx78.get hx'.wf gp', hx78.get hx'.wf gq', hx'.trans hx78⟩
      · repeat' (first | refine EvC.seq ?_ | refine EvC.scope ?_ | refine EvC.block ?_ | (refine EvC.skip ?_) | (refine EvC.exit ?_; try simp only [sB, reduceCtorEq]) | (refine EvC.ret ?_; try simp only [z01, z00]) | (refine EvC.reg ?_; simp (config := { maxSteps := 2000000 }) (disch := first | omega | rfl) only [sA, t26, t27, decn hlt]) | (refine EvC.condT ?_ ?_; simp (config := { maxSteps := 2000000 }) (disch := first | omega | rfl) only [sB]; refine z03 ?_) | (refine EvC.condF ?_ ?_; simp (config := { maxSteps := 2000000 }) (disch := first | omega | rfl) only [sB]; refine z03 ?_))
        rw [List.drop_of_length_le (by omega), totN] at htot
        exact ⟨_, _, rfl, (by simp only [sG, reduceCtorEq, t0] <;> rfl), (by simp only [sG, Nat.reduceEqDiff, t3] <;> rfl), (by simp only [sG, Nat.reduceEqDiff, t4] <;> rfl), by rw [← htot]; first | (simp only [sG, Nat.reduceEqDiff, t7]; rfl) | simp only [sG, Nat.reduceEqDiff, t7], gp', gq', hx'⟩
    · exact ⟨_, _, 0, cnt e 0, rfl, rfl, by omega, by have := z9i e; omega, rfl, (by simp only [sG, reduceCtorEq] <;> rfl), (by simp only [sG, Nat.reduceEqDiff, reduceCtorEq] <;> rfl), (by simp only [sG, Nat.reduceEqDiff, reduceCtorEq] <;> rfl), (by simp only [sG, Nat.reduceEqDiff, reduceCtorEq] <;> rfl), (by simp only [sG, Nat.reduceEqDiff, reduceCtorEq] <;> rfl), (by simp only [sG, Nat.reduceEqDiff, reduceCtorEq] <;> rfl), (by simp only [sB, Nat.reduceEqDiff, reduceCtorEq] <;> rfl), gp6, gq6, hx6⟩
  · rintro st ⟨tm, H', rfl, t0, t3, t4, t7, gp', gq', hx'⟩
    have q1 := row6 gp'
    by_cases hov : 4000 < totN l (cnt e 0)
    · have hd : decide ((totN l (cnt e 0) : Int) > 4000) = true := decide_eq_true (by omega)
      repeat' (first | refine EvC.seq ?_ | refine EvC.scope ?_ | refine EvC.block ?_ | (refine EvC.skip ?_) | (refine EvC.exit ?_) | (refine EvC.ret ?_; try simp only [z01, z00]) | (refine EvC.reg ?_; simp (config := { maxSteps := 2000000 }) (disch := first | omega | rfl) only [sB, Nat.reduceEqDiff, Nat.reduceAdd, Value.cells, one, layC, bd26, st26, t4, t7, hd, gq']) | (refine EvC.condT ?_ ?_; simp (config := { maxSteps := 2000000 }) (disch := first | omega | rfl) only [sB, Nat.reduceEqDiff]; refine z03 ?_))
      have hlE : listE l e = 24 := by rw [listE, if_pos hE, if_pos hov]
      refine z0b rfl (by simp only [sB, Nat.reduceEqDiff, t4] <;> rfl) (by simp only [sB, Nat.reduceAdd, cutC, ld26] <;> rfl) (by simp only [sB, Nat.reduceEqDiff] <;> rfl) ⟨zero6, by rw [hlE], ?_, hx'.pt (by omega) gq' _⟩
      rw [listT, hlE, if_neg (by omega)]; exact z7f
    · have hd : decide ((totN l (cnt e 0) : Int) > 4000) = false := decide_eq_false (by omega)
      repeat' (first | refine EvC.seq ?_ | refine EvC.scope ?_ | refine EvC.block ?_ | (refine EvC.skip ?_; try simp only [z02]) | (refine EvC.exit ?_) | (refine EvC.ret ?_; try simp only [z01, z00]) | (refine EvC.reg ?_; simp (config := { maxSteps := 2000000 }) (disch := first | omega | rfl) only [sB, dAlloc, Nat.reduceEqDiff, zr26, ld26, cl61, t3, t7, hd, q1]) | (refine EvC.condT ?_ ?_; simp (config := { maxSteps := 2000000 }) (disch := first | omega | rfl) only [sB, Nat.reduceEqDiff]; refine z03 ?_) | (refine EvC.condF ?_ ?_; simp (config := { maxSteps := 2000000 }) (disch := first | omega | rfl) only [sB, Nat.reduceEqDiff]; refine z03 ?_))
      refine (z5j (Nat.lt_succ_self _) (r0.mono hx' hw) (z0p.1 hce).2 hx'.wf).mono ?_
      rintro v H8 ⟨co, rfl, ⟨ao, ko, rfl, hbe, hfo⟩, hx8⟩
      have gq8 := hx8.get hx'.wf gq'
      have hxh8 := hx'.trans hx8
      repeat' (first | refine EvC.seq ?_ | refine EvC.scope ?_ | refine EvC.block ?_ | (refine EvC.skip ?_) | (refine EvC.exit ?_) | (refine EvC.ret ?_; try simp only [z01, z00]) | (refine EvC.reg ?_; simp (config := { maxSteps := 2000000 }) (disch := first | omega | rfl) only [sB, Nat.reduceEqDiff, reduceCtorEq, cl62, t0]) | (refine z0t ?_; simp (config := { maxSteps := 2000000 }) (disch := first | omega | rfl) only [sB, Nat.reduceAdd, one, st26]))
      obtain ⟨H9, e9, hx9, g9, hn9, hw9⟩ := z0u hx8.wf (.row zero6 26) (.row (six e ao ko) 26)
      simp only [e9]
      refine (zjt hw9).mono ?_
      rintro v H10 ⟨rfl, g10, hn10, hx10⟩
      repeat' (first | refine EvC.seq ?_ | refine EvC.scope ?_ | refine EvC.block ?_ | (refine EvC.skip ?_) | (refine EvC.exit ?_) | (refine EvC.ret ?_; try simp only [z01, z00]))
      refine EvC.rangeG rfl (by simp only [sB, Nat.reduceEqDiff] <;> rfl) (by kernel_rfl) ?_
      intro R hR
      obtain ⟨H12, e12, hx12, gd, gR, hn12, hw12⟩ := new2 hx10.wf .dfr R
      simp only [e12]
      have hx9h := hxh8.trans hx9
      have hx10h := hx9h.trans hx10
      have hx12h := hx10h.trans hx12
      have n1 : H'.next ≤ H8.next := hx8.next
      have n2 : H.next + 1 < H'.next := hx'.wf _ _ gq'
      refine (zch (lst := l) (a := a) (c := c) (p := H9.next) (l := H10.next + 1) (cells := cells) (I := fun j G => HX H G ∧ G.get (H.next + 1) = some (.row zero6 26) ∧
        (∃ aj cj, G.get H8.next = some (.row (six (listed (l.drop j) e) aj cj) 26) ∧ FL G 26 (fun n => (H'.next ≤ n ∧ n < H8.next) ∨ (H10.next + 1 < n ∧ n < G.next)) (listed (l.drop j) e).args aj cj ∧ Bd (listed (l.drop j) e)) ∧
        G.get H9.next = some (.row [.slice a l.length c] 24) ∧ G.get H10.next = some .dfr ∧ G.get (H10.next + 1) = some R) ?_ ?_ ?_).mono ?_
      · rintro j G ⟨hxG, -, -, gs, -, -⟩
        exact ⟨gs, rl.mono hxG hw⟩
      · rintro i G hlt ⟨hxG, gqG, ⟨aj, cj, gt, hfl, hbj⟩, gsG, gdG, gRG⟩
        obtain ⟨b, o, a1, c1, rfl, hld, hr1⟩ := rl.el hlt
        obtain ⟨b2, o2, e3, hl3, hr3⟩ := rl.at (List.getElem?_eq_getElem hlt)
        cases e3
        have hcell : cells i = six l[i] a1 c1 := by rw [hld] at hl3; exact (Option.some.inj hl3).symm
        rw [hcell]
        refine EvR.go (gRG.trans (congrArg some hR)) rfl ?_
        have hRl : H10.next + 1 < G.next := hxG.wf _ _ gRG
        (repeat refine EvC.seq ?_); refine EvC.reg ?_; simp (config := { maxSteps := 2000000 }) (disch := first | omega | rfl) only [sB, dAlloc, Nat.reduceEqDiff, Nat.reduceAdd, one, zr26, st26, List.zip_cons_cons, List.zip_nil_right, List.foldl_cons, List.foldl_nil]
        refine ⟨by rw [if_neg (by omega), if_neg (by omega)]; exact gRG.trans (congrArg some hR), ?_⟩
        obtain ⟨G1, eG1, hxG1, gG1, nG1, wG1⟩ := z0u hxG.wf (.row zero6 26) (.row (six l[i] a1 c1) 26)
        simp only [eG1]
        generalize hG2 : Heap.put G1 (H10.next + 1) _ = G2
        have hx2G : HX H G2 := by rw [← hG2]; exact (hxG.trans hxG1).put (by omega) (by omega) _
        have nG2 : G2.next = G.next + 1 := by rw [← hG2, z0v]; exact nG1
        have keepG : ∀ n, n < G.next → n ≠ H10.next + 1 → G2.get n = G.get n := fun n hn hne => by rw [← hG2, get_put, if_neg hne]; exact hxG1.keep n hn
        have gT2 : G2.get G.next = some (.row (six l[i] a1 c1) 26) := by rw [← hG2, get_put, if_neg (by omega)]; exact gG1
        have gt2 := (keepG H8.next (hxG.wf _ _ gt) (by omega)).trans gt
        have q12 := row6 gT2
        have q10 := row6 gt2
        repeat' (first | refine EvC.seq ?_ | refine EvC.scope ?_ | refine EvC.block ?_ | (refine EvC.skip ?_) | (refine EvC.exit ?_) | (refine EvC.ret ?_; try simp only [z01, z00]) | (refine EvC.drw (id := 16) [([(0, 0)], some 1), ([(2, 0), (3, 1), (4, 1)], some 5), ([], none)] ?_ ?_; kernel_rfl; simp (config := { maxSteps := 2000000 }) (disch := first | omega | rfl) only [sD, sB, Nat.reduceEqDiff, Nat.reduceAdd, reduceCtorEq, ld26, cl61, q12, isAlloc, isRead, reduceCtorEq]))
        have hxb6 := hx2G.bump 6
        have hok : checkS l[i] = 0 := z3w hcl _ (List.getElem_mem _)
        refine (z5j (Nat.lt_succ_self _) (hr1.mono hxb6 hw) (z0p.1 hok).2 hxb6.wf).mono ?_
        rintro v G5 ⟨co2, rfl, ⟨ao2, ko2, rfl, hb5, hf5⟩, hx5'⟩
        have hb65 := ((HX.refl hx2G.wf).bump 6).trans hx5'
        have n5 : G2.next + 6 ≤ G5.next := hx5'.next
        have gt5 := hb65.get hx2G.wf gt2
        have q10' := row6 gt5
        have ne5 : (H8.next = G2.next + 3) = False := by simp; omega
        repeat' (first | refine EvC.seq ?_ | refine EvC.scope ?_ | refine EvC.block ?_ | (refine EvC.skip ?_) | (refine EvC.exit ?_) | (refine EvC.ret ?_; try simp only [z01, z00]) | (refine z0h ?_; simp (config := { maxSteps := 2000000 }) (disch := first | omega | rfl) only [sV, sD, sB, Nat.reduceEqDiff, Nat.reduceAdd, Value.cells, one, reduceCtorEq, Nat.reduceLeDiff, layC, ld26, bd26, st26, zl0, q10, q10', ne5, gt5, isAlloc, isRead, dalloc, reduceCtorEq]))
        have hlt8 : H8.next < H10.next := by omega
        have kf : ∀ (B1 B2 B3 : Option Blk) (n : Nat), n ≠ H10.next + 1 → n ≠ H8.next → n ≠ G2.next + 3 → (((G5.put (G2.next + 3) B1).put H8.next B2).put (H10.next + 1) B3).get n = G5.get n := fun B1 B2 B3 n h1 h2 h3 => by
          rw [get_put, if_neg h1, get_put, if_neg h2, get_put, if_neg h3]
        have hlist : listed (l.drop i) e = .mk 5 dot ByteArray.empty 0 0 [l[i], listed (l.drop (i + 1)) e] := by
          rw [List.drop_eq_getElem_cons hlt]; rfl
        have hG5 : HX H G5 := hxb6.trans hx5'
        have kG5 : ∀ n, n < G.next → n ≠ H10.next + 1 → G5.get n = G.get n := fun n hn hne => by rw [hb65.keep n (by omega)]; exact keepG n hn hne
        rw [hlist]
        refine ⟨?_, ?_, ?_, ⟨some ⟨G2.next + 3, 0, none⟩, 2, ?_, ?_, zmm⟩, ?_, ?_, ?_⟩
        · rw [if_neg (by omega), if_neg (by omega), hb65.keep _ (by omega), ← hG2, get_put, if_pos rfl]
        · exact ((hG5.put (i := G2.next + 3) (by omega) (by omega) _).put (i := H8.next) (by omega) (by rw [z0v]; omega) _).put (i := H10.next + 1) (by omega) (by rw [z0v, z0v]; omega) _
        · rw [if_neg (by omega), if_neg (by omega), if_neg (by omega), kG5 _ (by omega) (by omega)]; exact gqG
        · rw [if_neg (by omega)]; first | rfl | (rw [if_pos rfl]; rfl)
        · refine FL.pair (S1 := Rg (G2.next + 6) G5.next) (S2 := fun n => (H'.next ≤ n ∧ n < H8.next) ∨ (H10.next + 1 < n ∧ n < G.next)) (hf5.heap (fun n hn hl => ?_) hx5'.wf) (hfl.heap (fun n hn hl => ?_) hxG.wf) hb5 hbj ?_ ?_ ?_ ?_ ?_ ?_ ?_
          · have : G2.next + 6 ≤ n := hn.1
            exact kf _ _ _ _ (by omega) (by omega) (by omega)
          · rw [kf _ _ _ _ (by rcases hn with hn | hn <;> omega) (by rcases hn with hn | hn <;> omega) (by omega)]
            exact kG5 n hl (by rcases hn with hn | hn <;> omega)
          · rw [get_put, if_neg (by omega), get_put, if_neg (by omega), get_put, if_pos rfl]; rfl
          · right; exact ⟨by omega, by omega⟩
          · rintro ⟨h1, h2⟩; omega
          · rintro (h | h) <;> omega
          · rintro n ⟨h1, h2⟩; right; exact ⟨by omega, by omega⟩
          · rintro n (h | h)
            · exact .inl h
            · right; exact ⟨h.1, by omega⟩
          · rintro n ⟨h1, h2⟩ (h | h) <;> omega
        · rw [if_neg (by omega), if_neg (by omega), if_neg (by omega), kG5 _ (by omega) (by omega)]; exact gsG
        · rw [if_neg (by omega), if_neg (by omega), if_neg (by omega), kG5 _ (by omega) (by omega)]; exact gdG
        · exact hR.symm
      · refine ⟨hx12h, hx12.get hx10.wf (hx10.get hw9 (hx9.get hx8.wf gq8)), ?_, hx12.get hx10.wf g10, gd, gR⟩
        rw [List.drop_of_length_le (Nat.le_refl _)]
        refine ⟨ao, ko, hx12.get hx10.wf (hx10.get hw9 g9), (hfo.keep (hx9.trans (hx10.trans hx12)) hx8.wf).sub fun n hn => .inl hn, hbe⟩
      · rintro v G ⟨hxG, gqG, ⟨aj, cj, gt, hfl, hbj⟩, gsG, gdG, gRG⟩
        refine ⟨gRG, fun B => ?_⟩
        rw [List.drop_zero] at gt hfl hbj
        have hRl : H10.next + 1 < G.next := hxG.wf _ _ gRG
        obtain ⟨G2, hG2⟩ : ∃ G2, G.put (H10.next + 1) B = G2 := ⟨_, rfl⟩
        have hx2G : HX H G2 := by rw [← hG2]; exact hxG.put (by omega) hRl _
        have k2 : ∀ n, n ≠ H10.next + 1 → G2.get n = G.get n := fun n hn => by rw [← hG2, get_put, if_neg hn]
        have gq2 := (k2 _ (by omega)).trans gqG
        have gt2 := (k2 _ (by omega)).trans gt
        have gd2 := (k2 _ (by omega)).trans gdG
        have q10 := row6 gt2
        simp only [hG2, z09, z02]
        repeat' (first | refine EvC.seq ?_ | refine EvC.scope ?_ | refine EvC.block ?_ | (refine EvC.skip ?_) | (refine EvC.exit ?_) | (refine EvC.ret ?_; try simp only [z01, z00]) | (refine EvC.reg ?_; simp (config := { maxSteps := 2000000 }) (disch := first | omega | rfl) only [sB, Nat.reduceEqDiff, Nat.reduceAdd, one, ld26, st26, t4, q10, gq2]))
        have hlE : listE l e = 0 := by rw [listE, if_pos hE, if_neg hov]
        refine zfj (by rw [get_put, if_neg (by omega)]; exact gd2) ?_
        have ne7 : (H.next + 1 = H10.next) = False := by simp; omega
        refine z0b rfl (by simp only [sB, Nat.reduceEqDiff, t4] <;> rfl) (by simp only [sB, Nat.reduceAdd, cutC, ld26, ne7] <;> rfl) (by simp only [sB, Nat.reduceEqDiff] <;> rfl) ⟨six (listed l e) aj cj, by rw [hlE], ?_, ?_⟩
        · have hlT : listT l e = listed l e := by rw [listT, if_pos hlE]
          rw [hlT]
          refine ⟨aj, cj, rfl, hbj, (hfl.heap (fun n hn hl => ?_) hxG.wf).sub fun n hn => ?_⟩
          · rw [get_put, if_neg (by rcases hn with hn | hn <;> omega), get_put, if_neg (by rcases hn with hn | hn <;> omega)]
            exact k2 n (by rcases hn with hn | hn <;> omega)
          · have e2 : G2.next = G.next := by rw [← hG2, z0v]
            refine ⟨by rcases hn with hn | hn <;> omega, ?_⟩
            rw [z0v, z0v, e2]
            rcases hn with hn | hn <;> omega
        · exact (hx2G.put (by omega) (hx2G.wf _ _ gq2) _).put (by omega) (by rw [z0v]; exact hx2G.wf _ _ gd2) _
end Go.Proofs.YtlllbkjiadcloaaDoor.hb
end

-- V8
section
namespace Go.Hb
open Go Go.RowKit
end Go.Hb
namespace Go.Proofs.YtlllbkjiadcloaaDoor.hb
open Go Go.RowKit Go.Hb
variable {ok : Ok}
set_option maxRecDepth 10000
attribute [local irreducible] LX LG EL STG SOP SGO SGD SAL SRD SEF SEG SLK SCK ES
end Go.Proofs.YtlllbkjiadcloaaDoor.hb
end

-- Nd
section
namespace Go.Proofs.YtlllbkjiadcloaaDoor.hb
open Go Go.RowKit Go.Hb
def nd : Tm → Nat
  | .mk _ _ _ _ _ l => 1 + ndL l
where ndL : List Tm → Nat
  | [] => 0
  | t :: l => nd t + ndL l
theorem z2k (t : Tm) : nd t = 1 + nd.ndL t.args := by obtain ⟨k, s, u, b, v, l⟩ := t; rw [nd]; rfl
theorem z7g : ∀ (l : List Tm), (∀ t ∈ l, ∀ n, n ≤ cnt t n) → ∀ n, n ≤ cntL l n
  | [], _, n => by rw [cntL]; exact Nat.le_refl _
  | t :: l, h, n => by
    rw [cntL]
    split
    · exact Nat.le_refl _
    · exact Nat.le_trans (h t (by simp) n) (z7g l (fun u hu => h u (List.mem_cons_of_mem _ hu)) _)
theorem zea : ∀ (m : Nat) (t : Tm), SizeOf.sizeOf t < m → ∀ n, n + 1 ≤ cnt t n
  | 0, _, h, _ => by omega
  | m + 1, t, h, n => by
    rw [z44]
    exact z7g _ (fun u hu k => by have := zea m u (by have := z0d hu; omega) k; omega) _
theorem zhm : ∀ (l : List Tm), (∀ t ∈ l, ∀ n, cnt t n ≤ 4000 → cnt t n = n + nd t) → ∀ n, cntL l n ≤ 4000 → cntL l n = n + nd.ndL l
  | [], _, n, _ => by rw [cntL, nd.ndL]; rfl
  | t :: l, h, n, hn => by
    rw [cntL] at hn ⊢
    split at hn
    · omega
    · rename_i h4
      rw [if_neg h4]
      have hm : cnt t n ≤ cntL l (cnt t n) := z7g l (fun u _ k => by have := zea _ u (Nat.lt_succ_self _) k; omega) _
      rw [zhm l (fun u hu => h u (List.mem_cons_of_mem _ hu)) _ hn, h t (by simp) n (by omega), nd.ndL]
      omega
theorem z64 : ∀ (m : Nat) (t : Tm), SizeOf.sizeOf t < m → ∀ n, cnt t n ≤ 4000 → cnt t n = n + nd t
  | 0, _, h, _, _ => by omega
  | m + 1, t, h, n, hn => by
    rw [z44] at hn ⊢
    rw [zhm _ (fun u hu k => z64 m u (by have := z0d hu; omega) k) _ hn, z2k]; omega
end Go.Proofs.YtlllbkjiadcloaaDoor.hb
end

-- V9
section
namespace Go.Hb
open Go Go.RowKit
section
variable {P : Program} {ok : Ok} {fn : Func} {tm : Tr Value} {H : Heap} {K : Value → Heap → Prop}
theorem zb1 {a q p : Tmp} {t : TypeId} {ad : Addr} {v u y : Value} (h : fn.results.toList = [.tmp q, .cell a t, .tmp p]) (hu : tm.get q = some u) (hv : tm.get a = some (.pointer (some ad))) (hd : dLoad P t (.pointer (some ad)) H = some (.val v H)) (hy : tm.get p = some y)
    (hk : K (.tuple ⟨[u, v, y]⟩) H) : Ex.leave P ok fn K .ret ⟨tm, [], H⟩ := by
  refine EvV.now (v := .tuple ⟨[u, v, y]⟩) ?_ hk
  have hl : dload P t ad H = some v := by
    unfold dLoad at hd
    simp only at hd
    cases h1 : dload P t ad H with
    | none => rw [h1] at hd; simp at hd
    | some w => rw [h1] at hd; simp at hd; rw [hd]
  simp [dres, h, dresL, dres1, hv, hl, hu, hy]
end
end Go.Hb
namespace Go.Proofs.YtlllbkjiadcloaaDoor.hb
open Go Go.RowKit Go.Hb
variable {ok : Ok}
set_option maxRecDepth 10000
attribute [local irreducible] LX LG EL STG SOP SGO SGD SAL SRD SEF SEG SLK SCK ES
def elL : Tm → List Tm
  | .mk k s _ _ _ [x, y] => if k = 5 ∧ s = dot then x :: elL y else []
  | _ => []
def elR : Tm → Tm
  | .mk k s u b v [x, y] => if k = 5 ∧ s = dot then elR y else .mk k s u b v [x, y]
  | t => t
def isCons (t : Tm) : Prop := t.kind = 5 ∧ t.name = dot ∧ t.args.length = 2
theorem zhn {t : Tm} (h : isCons t) : ∃ x y, t.args = [x, y] ∧ elL t = x :: elL y ∧ elR t = elR y := by
  obtain ⟨k, s, u, b, v, l⟩ := t
  obtain ⟨h1, h2, h3⟩ := h
  simp only [Tm.kind, Tm.name, Tm.args] at h1 h2 h3
  match l, h3 with
  | [x, y], _ => exact ⟨x, y, rfl, by rw [elL, if_pos ⟨h1, h2⟩], by rw [elR, if_pos ⟨h1, h2⟩]⟩
theorem zci {t : Tm} (h : ¬ isCons t) : elL t = [] ∧ elR t = t := by
  obtain ⟨k, s, u, b, v, l⟩ := t
  simp only [isCons, Tm.kind, Tm.name, Tm.args] at h
  match l with
  | [] => exact ⟨rfl, rfl⟩
  | [_] => exact ⟨rfl, rfl⟩
  | _ :: _ :: _ :: _ => exact ⟨rfl, rfl⟩
  | [x, y] =>
    have hn : ¬ (k = 5 ∧ s = dot) := fun q => h ⟨q.1, q.2, rfl⟩
    exact ⟨by rw [elL, if_neg hn], by rw [elR, if_neg hn]⟩
theorem zlb {s : ByteArray} (h : s = dot) : (s.data.toList == (⟨#[46]⟩ : ByteArray).data.toList) = true := by rw [h]; exact beq_self_eq_true _
theorem zo7 {s : ByteArray} (h : s ≠ dot) : (s.data.toList == (⟨#[46]⟩ : ByteArray).data.toList) = false := by
  rw [beq_eq_false_iff_ne]
  intro q
  exact h (z45 (by rw [z1d, z1d]; exact q))
theorem zlc : ∀ (m : Nat) (t : Tm), SizeOf.sizeOf t < m → (elL t).length ≤ nd t
  | 0, _, h => by omega
  | m + 1, t, h => by
    by_cases hc : isCons t
    · obtain ⟨x, y, he, h1, h2⟩ := zhn hc
      have hy : SizeOf.sizeOf y < SizeOf.sizeOf t := z0d (by rw [he]; simp)
      have := zlc m y (by omega)
      rw [h1, List.length_cons, z2k, he, nd.ndL, nd.ndL, nd.ndL]; omega
    · rw [(zci hc).1]; exact Nat.zero_le _
theorem zju {t : Tm} (h : checkS t = 0) : (elL t).length ≤ 4000 := by
  have h1 := (z0p.1 h).1
  have h2 := z64 _ t (Nat.lt_succ_self _) 0 h1
  have h3 := zlc _ t (Nat.lt_succ_self _)
  omega
theorem zmo {t u : Tm} {a a' : Option Addr} {c c' : Nat} (h : six t a c = six u a' c') : t.kind = u.kind ∧ t.name = u.name ∧ t.num = u.num ∧ t.bits = u.bits ∧ t.var = u.var ∧ a = a' ∧ c = c' := by
  simp only [six, List.cons.injEq, Value.int.injEq, Value.string.injEq, Value.slice.injEq, true_and, and_true] at h
  exact ⟨h.1, h.2.1, h.2.2.1, h.2.2.2.1, h.2.2.2.2.1, h.2.2.2.2.2.1, h.2.2.2.2.2.2.2⟩
set_option maxHeartbeats 8000000 in
theorem zcj {t : Tm} {cs : List Value} {H : Heap} (r : RepT H t cs) (hw : H.wf) :
    EvF Tryd.prog okT 24 [.agg ⟨cs⟩] H fun v H' => HX H H' ∧ ∃ m a c out, v = .tuple #[.slice a (if checkS t = 0 then elL t else []).length c, .agg ⟨out⟩, .int .i64 (checkS t)] ∧
      FL H' 26 (Rg H.next m) (if checkS t = 0 then elL t else []) a c ∧ RepF H' 26 (Rg m H'.next) (if checkS t = 0 then elR t else zeroT) out ∧ H.next ≤ m ∧ m ≤ H'.next := by
  have r0 := r
  obtain ⟨ae, ce, cellse, rfl, -⟩ := r.six
  have ean : apOk Tryd.prog 24 26 6 := ap24
  refine EvF.enter rfl Tryd.func24 (by decide) rfl ?_
  (repeat refine EvC.seq ?_); refine EvC.reg ?_; simp (config := { maxSteps := 2000000 }) (disch := first | omega | rfl) only [sB, initTm, dBox, dAlloc, Value.cells, one, zr26]
  obtain ⟨H2, e2, hx2, gp, gq, hn2, hw2⟩ := new2 hw (.row (six t ae ce) 26) (.row zero6 26)
  simp only [e2]
  clear e2
  have q1 := row6 gp
  repeat' (first | refine EvC.seq ?_ | refine EvC.scope ?_ | refine EvC.block ?_ | (refine EvC.skip ?_) | (refine EvC.exit ?_) | (refine EvC.ret ?_; try simp only [z01, z00]) | (refine EvC.reg ?_; simp (config := { maxSteps := 2000000 }) (disch := first | omega | rfl) only [sB, Nat.reduceEqDiff, reduceCtorEq, ld26, cl15, q1]))
  refine (z2j t _ _ (r0.mono hx2 hw) hw2).mono ?_
  rintro v H3 ⟨rfl, hx3⟩
  have gp3 := hx3.get hw2 gp
  have gq3 := hx3.get hw2 gq
  have hx23 := hx2.trans hx3
  have n3 := hx3.next
  by_cases h0 : checkS t = 0
  rotate_left
  · repeat' (first | refine EvC.seq ?_ | refine EvC.scope ?_ | refine EvC.block ?_ | (refine EvC.skip ?_) | (refine EvC.exit ?_) | (refine EvC.ret ?_; try simp only [z01, z00]) | (refine EvC.reg ?_; simp (config := { maxSteps := 2000000 }) (disch := first | omega | rfl) only [sB, Nat.reduceEqDiff, Nat.reduceAdd, Value.cells, one, reduceCtorEq, layC, bd26, st26, z31 h0, gq3]) | (refine EvC.condT ?_ ?_; simp (config := { maxSteps := 2000000 }) (disch := first | omega | rfl) only [sB, Nat.reduceEqDiff, reduceCtorEq]; refine z03 ?_))
    refine zb1 rfl (by simp only [sB, Nat.reduceEqDiff, reduceCtorEq] <;> rfl) (by simp only [sB, Nat.reduceEqDiff, reduceCtorEq] <;> rfl) (by simp only [sB, Nat.reduceAdd, cutC, ld26] <;> rfl) (by simp only [sB, Nat.reduceEqDiff, reduceCtorEq] <;> rfl) ⟨hx23.pt (by omega) gq3 _, H.next, none, 0, zero6, ?_, ?_, ?_, Nat.le_refl _, ?_⟩
    · rw [if_neg h0]; rfl
    · rw [if_neg h0]; exact .nil _
    · rw [if_neg h0]; exact z7f
    · rw [z0v]; omega
  repeat' (first | refine EvC.seq ?_ | refine EvC.scope ?_ | refine EvC.block ?_ | (refine EvC.skip ?_; try simp only [z02]) | (refine EvC.exit ?_) | (refine EvC.ret ?_; try simp only [z01, z00]) | (refine EvC.reg ?_; simp (config := { maxSteps := 2000000 }) (disch := first | omega | rfl) only [sB, Nat.reduceEqDiff, reduceCtorEq, z17 h0]) | (refine EvC.condT ?_ ?_; simp (config := { maxSteps := 2000000 }) (disch := first | omega | rfl) only [sB, Nat.reduceEqDiff, reduceCtorEq]; refine z03 ?_) | (refine EvC.condF ?_ ?_; simp (config := { maxSteps := 2000000 }) (disch := first | omega | rfl) only [sB, Nat.reduceEqDiff, reduceCtorEq]; refine z03 ?_))
  rw [if_pos h0, if_pos h0]
  have hfew := zju h0
  have hfine := (z0p.1 h0).2
  refine EvC.loop (fun k st => ∃ tm G cur pre ac cc ao co, st = ⟨tm, [], G⟩ ∧ k = SizeOf.sizeOf cur ∧ tm.get 1 = some (.pointer (some ⟨H.next, 0, none⟩)) ∧ tm.get 3 = some (.pointer (some ⟨H.next + 1, 0, none⟩)) ∧ tm.get 6 = some (.slice ao pre.length co) ∧
    G.get H.next = some (.row (six cur ac cc) 26) ∧ G.get (H.next + 1) = some (.row zero6 26) ∧ RepT H cur (six cur ac cc) ∧ Fine cur ∧ pre ++ elL cur = elL t ∧ elR cur = elR t ∧
    FL G 26 (fun n => H.next + 2 ≤ n ∧ n < G.next) pre ao co ∧ HX H G) ?_ (SizeOf.sizeOf t) _ ?_
  · rintro k st ⟨tm, G, cur, pre, ac, cc, ao, co, rfl, rfl, t1, t3, t6, gpG, gqG, rc, fc, hpre, hend, hfl, hxG⟩
    have q1 := row6 gpG
    have hltq := hxG.wf _ _ gqG
    obtain ⟨bb, hbb⟩ : ∃ b : Bool, (b = true ↔ isCons cur) := ⟨@decide (isCons cur) (Classical.propDecidable _), @decide_eq_true_iff _ (Classical.propDecidable _)⟩
    (repeat refine EvC.seq ?_)
    refine EvC.join (fun st => ∃ tm', st = ⟨tm', [], G⟩ ∧ tm'.get 1 = some (.pointer (some ⟨H.next, 0, none⟩)) ∧ tm'.get 3 = some (.pointer (some ⟨H.next + 1, 0, none⟩)) ∧ tm'.get 6 = some (.slice ao pre.length co) ∧ tm'.get 26 = some (.bool bb)) ?_ ?_
    · by_cases k5 : cur.kind = 5
      rotate_left
      · have hb : bb = false := by cases bb; rfl; exact absurd (hbb.1 rfl).1 k5
        repeat' (first | refine EvC.seq ?_ | refine EvC.scope ?_ | refine EvC.block ?_ | (refine EvC.skip ?_) | (refine EvC.exit ?_) | (refine EvC.ret ?_; try simp only [z01, z00]) | (refine EvC.reg ?_; simp (config := { maxSteps := 2000000 }) (disch := first | omega | rfl) only [sB, Nat.reduceEqDiff, z0y, ld3, t1, q1, z0x k5, Bool.false_eq_true]))
        exact ⟨_, rfl, (by simp only [sG, Nat.reduceEqDiff, t1] <;> rfl), (by simp only [sG, Nat.reduceEqDiff, t3] <;> rfl), (by simp only [sG, Nat.reduceEqDiff, t6] <;> rfl), by rw [hb]; first | (simp only [sG, Nat.reduceEqDiff]; rfl) | simp only [sG, Nat.reduceEqDiff]⟩
      by_cases kn : cur.name = dot
      rotate_left
      · have hb : bb = false := by cases bb; rfl; exact absurd (hbb.1 rfl).2.1 kn
        repeat' (first | refine EvC.seq ?_ | refine EvC.scope ?_ | refine EvC.block ?_ | (refine EvC.skip ?_) | (refine EvC.exit ?_) | (refine EvC.ret ?_; try simp only [z01, z00]) | (refine EvC.reg ?_; simp (config := { maxSteps := 2000000 }) (disch := first | omega | rfl) only [sB, Nat.reduceEqDiff, z0y, ld3, z2h, ld9, t1, q1, z1p k5, z3t, zo7 kn, Bool.false_eq_true]))
        exact ⟨_, rfl, (by simp only [sG, Nat.reduceEqDiff, t1] <;> rfl), (by simp only [sG, Nat.reduceEqDiff, t3] <;> rfl), (by simp only [sG, Nat.reduceEqDiff, t6] <;> rfl), by rw [hb]; first | (simp only [sG, Nat.reduceEqDiff]; rfl) | simp only [sG, Nat.reduceEqDiff]⟩
      by_cases k2 : cur.args.length = 2
      · have hb : bb = true := hbb.2 ⟨k5, kn, k2⟩
        have k2' : (cur.args.length : Int) = 2 := by omega
        repeat' (first | refine EvC.seq ?_ | refine EvC.scope ?_ | refine EvC.block ?_ | (refine EvC.skip ?_) | (refine EvC.exit ?_) | (refine EvC.ret ?_; try simp only [z01, z00]) | (refine EvC.reg ?_; simp (config := { maxSteps := 2000000 }) (disch := first | omega | rfl) only [sB, Nat.reduceEqDiff, z0y, ld3, z2h, ld9, z19, ld24, ln24, t1, q1, z1p k5, z3t, zlb kn, z1p k2']))
        exact ⟨_, rfl, (by simp only [sG, Nat.reduceEqDiff, t1] <;> rfl), (by simp only [sG, Nat.reduceEqDiff, t3] <;> rfl), (by simp only [sG, Nat.reduceEqDiff, t6] <;> rfl), by rw [hb]; first | (simp only [sG, Nat.reduceEqDiff]; rfl) | simp only [sG, Nat.reduceEqDiff]⟩
      · have hb : bb = false := by cases bb; rfl; exact absurd (hbb.1 rfl).2.2 k2
        have k2' : (cur.args.length : Int) ≠ 2 := by omega
        repeat' (first | refine EvC.seq ?_ | refine EvC.scope ?_ | refine EvC.block ?_ | (refine EvC.skip ?_) | (refine EvC.exit ?_) | (refine EvC.ret ?_; try simp only [z01, z00]) | (refine EvC.reg ?_; simp (config := { maxSteps := 2000000 }) (disch := first | omega | rfl) only [sB, Nat.reduceEqDiff, z0y, ld3, z2h, ld9, z19, ld24, ln24, t1, q1, z1p k5, z3t, zlb kn, z0x k2']))
        exact ⟨_, rfl, (by simp only [sG, Nat.reduceEqDiff, t1] <;> rfl), (by simp only [sG, Nat.reduceEqDiff, t3] <;> rfl), (by simp only [sG, Nat.reduceEqDiff, t6] <;> rfl), by rw [hb]; first | (simp only [sG, Nat.reduceEqDiff]; rfl) | simp only [sG, Nat.reduceEqDiff]⟩
    rintro st ⟨tm, rfl, t1, t3, t6, t26⟩
    simp only [z02]
    cases bb with
    | true =>
      have hc := hbb.1 rfl
      obtain ⟨x, y, hxy, hl1, hl2⟩ := zhn hc
      have rcl := rc
      obtain ⟨a0, c0, cells0, h6, -, -, -, -, -, rl⟩ := rc.six
      obtain ⟨-, -, -, -, -, rfl, rfl⟩ := zmo h6
      have hlen2 : cur.args.length = 2 := hc.2.2
      have g0 : cur.args[0]'(by omega) = x := by simp [hxy]
      have g1 : cur.args[1]'(by omega) = y := by simp [hxy]
      obtain ⟨b, o, a1, c1, rfl, hld0, hr0⟩ := rl.el (i := 0) (by omega)
      obtain ⟨b', o', a2, c2, e2, hld1, hr1⟩ := rl.el (i := 1) (by omega)
      cases e2
      rw [g0] at hld0 hr0
      rw [g1] at hld1 hr1
      simp only [Nat.zero_mul, Nat.add_zero, Nat.one_mul] at hld0 hld1
      have l0 := hxG.load hw hld0
      have l1 := hxG.load hw hld1
      repeat' (first | refine EvC.seq ?_ | refine EvC.scope ?_ | refine EvC.block ?_ | (refine EvC.skip ?_; try simp only [z02]) | (refine EvC.exit ?_) | (refine EvC.ret ?_; try simp only [z01, z00]) | (refine EvC.reg ?_; simp (config := { maxSteps := 2000000 }) (disch := first | omega | rfl) only [sB, Nat.reduceEqDiff, Nat.reduceAdd, Value.cells, layC, Int.reduceToNat, ld26, z19, ld24, cl61, zl2, t1, t6, q1, l0, iz24, Nat.zero_mul]) | (refine EvC.condT ?_ ?_; simp (config := { maxSteps := 2000000 }) (disch := first | omega | rfl) only [sA, t26]; refine z03 ?_))
      have hfx : Fine x := fc.args x (by rw [hxy]; simp)
      have hfy : Fine y := fc.args y (by rw [hxy]; simp)
      refine (z5j (Nat.lt_succ_self _) (hr0.mono hxG hw) hfx hxG.wf).mono ?_
      rintro v H5 ⟨co5, rfl, ⟨ao5, ko5, rfl, hb5, hf5⟩, hx5⟩
      have n5 := hx5.next
      repeat' (first | refine EvC.seq ?_ | refine EvC.scope ?_ | refine EvC.block ?_ | (refine EvC.skip ?_) | (refine EvC.exit ?_) | (refine EvC.ret ?_; try simp only [z01, z00]) | (refine z0t ?_; simp (config := { maxSteps := 2000000 }) (disch := first | omega | rfl) only [sB, Nat.reduceEqDiff, Nat.reduceAdd, one]))
      obtain ⟨H6, e6, hx6, g6, hn6, hw6⟩ := new1 hx5.wf (.row (six x ao5 ko5) 26)
      simp only [e6]
      have hx56 := hx5.trans hx6
      have hplen : pre.length + 1 ≤ 4000 := by
        have := congrArg List.length hpre
        rw [List.length_append, hl1, List.length_cons] at this
        omega
      obtain ⟨H7, e7, hf7, hk7, hn7⟩ := FL.push (S := fun n => H.next + 2 ≤ n ∧ n < G.next) (N := Rg G.next H5.next) (S2 := fun n => H.next + 2 ≤ n ∧ n < H6.next + 1) (c1 := 1) ean (hfl.keep hx56 hxG.wf) hw6 (row6 g6).2.2.2.2.2.2 (hf5.keep hx6 hx5.wf) hb5
        (fun n hn hs => by have := hn.1; omega) (fun n hn => by omega) (fun n hn => by have := hn.2; omega) (by unfold most; omega) (fun n hn => by
          rcases hn with hn | hn | hn
          · exact ⟨hn.1, by omega⟩
          · exact ⟨by have := hn.1; omega, by have := hn.2; omega⟩
          · exact ⟨by omega, by omega⟩)
      have hx7 : HX H H7 := (hxG.trans hx56).then hk7 fun n hn hs => by have := hs.1; omega
      have gp7 := hk7.get hw6 (hx56.get hxG.wf gpG) (fun hs => by have := hs.1; omega)
      have gq7 := hk7.get hw6 (hx56.get hxG.wf gqG) (fun hs => by have := hs.1; omega)
      have l1' := hx7.load hw hld1
      have q7 := row6 gp7
      repeat' (first | refine EvC.seq ?_ | refine EvC.scope ?_ | refine EvC.block ?_ | (refine EvC.skip ?_) | (refine EvC.exit ?_) | (refine EvC.ret ?_; try simp only [z01, z00]) | (refine EvC.reg ?_; simp (config := { maxSteps := 2000000 }) (disch := first | omega | rfl) only [sB, Nat.reduceEqDiff, Nat.reduceAdd, one, Int.reduceToNat, ld26, st26, z19, ld24, t1, q7, l1', gp7, iz24, Nat.one_mul]) | (refine z0t ?_; simp (config := { maxSteps := 2000000 }) (disch := first | omega | rfl) only [sB, Nat.reduceEqDiff, e7]))
      refine ⟨SizeOf.sizeOf y, z0d (by rw [hxy]; simp), _, _, y, pre ++ [x], a2, c2, some ⟨H6.next, 0, none⟩, pre.length + 1, rfl, rfl, (by simp only [sG, Nat.reduceEqDiff, t1] <;> rfl), (by simp only [sG, Nat.reduceEqDiff, t3] <;> rfl), by rw [List.length_append]; first | (simp only [sB, Nat.reduceEqDiff]; rfl) | simp only [sB, Nat.reduceEqDiff], by rw [get_put, if_pos rfl], by rw [get_put, if_neg (by omega)]; exact gq7, hr1, hfy, by rw [← hpre, hl1]; simp, by rw [← hend, hl2],
        (hf7.heap (fun n hn _ => ?_) hx7.wf).sub fun n hn => ⟨hn.1, by rw [z0v, hn7]; exact hn.2⟩, hx7.pt (Nat.le_refl _) gp7 _⟩
      have := hn.1
      rw [get_put, if_neg (by omega)]
    | false =>
      have hc : ¬ isCons cur := fun h => by have := hbb.2 h; cases this
      obtain ⟨hl1, hl2⟩ := zci hc
      rw [hl1, List.append_nil] at hpre
      repeat' (first | refine EvC.seq ?_ | refine EvC.scope ?_ | refine EvC.block ?_ | (refine EvC.skip ?_) | (refine EvC.exit ?_; try simp only [sB]) | (refine EvC.ret ?_; try simp only [z01, z00]) | (refine EvC.reg ?_; simp (config := { maxSteps := 2000000 }) (disch := first | omega | rfl) only [sB, Nat.reduceEqDiff, ld26, cl61, t1, t6, q1]) | (refine EvC.condT ?_ ?_; simp (config := { maxSteps := 2000000 }) (disch := first | omega | rfl) only [sA, t26]; refine z03 ?_) | (refine EvC.condF ?_ ?_; simp (config := { maxSteps := 2000000 }) (disch := first | omega | rfl) only [sA, t26]; refine z03 ?_))
      refine (z5j (Nat.lt_succ_self _) (rc.mono hxG hw) fc hxG.wf).mono ?_
      rintro v H8 ⟨co8, rfl, ⟨ao2, ko, rfl, hbe, hfo⟩, hx8⟩
      have gq8 := hx8.get hxG.wf gqG
      have n8 := hx8.next
      repeat' (first | refine EvC.seq ?_ | refine EvC.scope ?_ | refine EvC.block ?_ | (refine EvC.skip ?_) | (refine EvC.exit ?_) | (refine EvC.ret ?_; try simp only [z01, z00]) | (refine z0t ?_; simp (config := { maxSteps := 2000000 }) (disch := first | omega | rfl) only [sB, Nat.reduceAdd, one, st26, t3, gq8]))
      have hcur : cur = elR t := by rw [← hend, hl2]
      rw [← hpre, ← hcur]
      refine zb1 rfl (by simp only [sB, Nat.reduceEqDiff] <;> rfl) (by simp only [sB, Nat.reduceEqDiff, t3] <;> rfl) (by simp only [sB, Nat.reduceAdd, cutC, ld26] <;> rfl) (by simp only [sB, Nat.reduceEqDiff] <;> rfl) ⟨(hxG.trans hx8).pt (by omega) gq8 _, G.next, ao, co, six cur ao2 ko, ?_, ?_, ⟨ao2, ko, rfl, hbe, ?_⟩, hxG.next, ?_⟩
      · rw [h0]
      · refine (hfl.heap (fun n hn hl => ?_) hxG.wf).sub fun n hn => ⟨by omega, hn.2⟩
        rw [get_put, if_neg (by omega)]; exact hx8.keep n hl
      · refine hfo.heap (fun n hn hl => ?_) hx8.wf
        have := hn.1
        rw [get_put, if_neg (by omega)]
      · rw [z0v]; exact n8
  · exact ⟨_, _, t, [], ae, ce, none, 0, rfl, rfl, (by simp only [sG, Nat.reduceEqDiff, reduceCtorEq] <;> rfl), (by simp only [sG, Nat.reduceEqDiff, reduceCtorEq] <;> rfl), (by simp only [sB, Nat.reduceEqDiff, reduceCtorEq] <;> rfl), gp3, gq3, r0, hfine, rfl, rfl, .nil _, hx23⟩
end Go.Proofs.YtlllbkjiadcloaaDoor.hb
end

-- Pu1
section
namespace Go.Proofs.YtlllbkjiadcloaaDoor.hb
open Go Go.RowKit Go.Hb
variable {ok : Ok}
set_option maxRecDepth 10000
attribute [local irreducible] LX LG EL STG SOP SGO SGD SAL SRD SEF SEG SLK SCK ES
mutual
def subO (σ : Int → Option Tm) : Tm → Tm
  | .mk k s u b v l => if k = 1 then (σ v).getD (.mk k s u b v l) else .mk k s u b v (subOL σ l)
def subOL (σ : Int → Option Tm) : List Tm → List Tm
  | [] => []
  | t :: l => subO σ t :: subOL σ l
end
theorem zb2 (σ : Int → Option Tm) : ∀ l : List Tm, subOL σ l = l.map (subO σ)
  | [] => by rw [subOL]; rfl
  | t :: l => by rw [subOL, zb2 σ l]; rfl
theorem z3i {σ : Int → Option Tm} {t : Tm} (h : t.kind = 1) : subO σ t = (σ t.var).getD t := by
  obtain ⟨k, s, u, b, v, l⟩ := t
  rw [subO, if_pos (show k = 1 from h)]; rfl
theorem z5l {σ : Int → Option Tm} {t : Tm} (h : t.kind ≠ 1) : subO σ t = .mk t.kind t.name t.num t.bits t.var (t.args.map (subO σ)) := by
  obtain ⟨k, s, u, b, v, l⟩ := t
  rw [subO, if_neg (show ¬ k = 1 from h), zb2]; rfl
structure ByOpt (g : FuncId) (cap : Array Value) (σ : Int → Option Tm) (J : Heap → Prop) : Prop where
  step : ∀ n H, i64 n → J H → H.wf → EvF Tryd.prog okT g ([.int .i64 n] ++ cap.toList) H fun v H' => HX H H' ∧ ((∃ u cs, σ n = some u ∧ v = .tuple #[.agg ⟨cs⟩, .bool true] ∧ RepT H' u cs) ∨ (σ n = none ∧ v = .tuple #[.agg ⟨zero6⟩, .bool false]))
  stay : ∀ H H', J H → HX H H' → J H'
  fine : ∀ n u, σ n = some u → Fine u
theorem RepT.made {H : Heap} {t u : Tm} {a : Option Addr} {c : Nat} {cells : Nat → List Value} (hb : Bd t) (e : u = .mk t.kind t.name t.num t.bits t.var u.args) (rl : RepL H u.args a c cells) : RepT H u (six u a c) := by
  obtain ⟨k, s, w, b, v, l⟩ := u
  have e' : (Tm.mk k s w b v l) = .mk t.kind t.name t.num t.bits t.var l := e
  injection e' with e1 e2 e3 e4 e5
  subst e1 e2 e3 e4 e5
  exact .mk _ _ _ _ _ l a c cells hb.kind hb.name hb.num hb.bits hb.var (Nat.le_trans rl.len rl.cap) rl.len rl.cap rl.nil rl.load rl.rep
theorem z7h {t : Tm} (h : Fine t) (k : t.kind = 1) : t.args = [] := (z24 (z1s h.node).2.2.1).2.2.2.2 (by omega)
def RepS (H : Heap) (S : Nat → Prop) (t : Tm) (cs : List Value) : Prop := ∀ G : Heap, (∀ n, S n → n < H.next → G.get n = H.get n) → RepT G t cs
theorem RepS.rep {H : Heap} {S : Nat → Prop} {t : Tm} {cs : List Value} (h : RepS H S t cs) : RepT H t cs := h H fun _ _ _ => rfl
theorem RepS.to {H H2 : Heap} {S S2 : Nat → Prop} {t : Tm} {cs : List Value} (h : RepS H S t cs) (hk : ∀ n, S n → n < H.next → H2.get n = H.get n ∧ S2 n ∧ n < H2.next) : RepS H2 S2 t cs := fun G hG => h G fun n hn hl => by
  obtain ⟨a, b, c⟩ := hk n hn hl
  rw [hG n b c, a]
theorem RepF.toS {H : Heap} {T : TypeId} {S : Nat → Prop} {t : Tm} {cs : List Value} (h : RepF H T S t cs) (hw : H.wf) : RepS H S t cs := fun G hG => by
  obtain ⟨a, c, rfl, hb, hf⟩ := h
  exact RepF.rep (T := T) (S := S) ⟨a, c, rfl, hb, hf.heap hG hw⟩
theorem RepS.leaf {H : Heap} {S : Nat → Prop} {t : Tm} {a : Option Addr} {c : Nat} (hb : Bd t) (he : t.args = []) (hc : c ≤ maxLen) (hn : a = none → c = 0) : RepS H S t (six t a c) := fun G _ =>
  RepT.made (cells := fun _ => []) hb (by obtain ⟨k, s, u, b, v, l⟩ := t; rfl) (by rw [he]; exact ⟨Nat.zero_le _, hc, fun h => ⟨rfl, hn h⟩, fun i ad hi => by simp at hi, fun i t h => by simp at h⟩)
theorem RepS.row {H : Heap} {S : Nat → Prop} {T : TypeId} {t u : Tm} {b c : Nat} {cells : List Value} (hb : Bd t) (e : u = .mk t.kind t.name t.num t.bits t.var u.args) (hg : H.get b = some (.row cells T)) (hS : S b) (hbl : b < H.next) (hl : u.args.length * 6 ≤ cells.length) (hc : u.args.length ≤ c) (hm : c ≤ maxLen)
    (hch : ∀ (j : Nat) (hj : j < u.args.length), RepS H S u.args[j] ((cells.drop (j * 6)).take 6)) : RepS H S u (six u (some ⟨b, 0, none⟩) c) := fun G hG =>
  RepT.made hb e (RepL.of_row (by rw [hG b hS hbl]; exact hg) (fun i hi => rfl) (fun i t ht => by
    obtain ⟨hj, rfl⟩ := List.getElem?_eq_some_iff.1 ht
    exact hch i hj G hG) hc hm)
set_option maxHeartbeats 4000000 in
theorem zfk {g : FuncId} {cap : Array Value} {σ : Int → Option Tm} {J : Heap → Prop} (hg : callable Tryd.prog g = true) (B : ByOpt g cap σ J) {m : Nat} : ∀ {t : Tm} {cs : List Value} {H : Heap}, SizeOf.sizeOf t < m → RepT H t cs → Fine t → J H → H.wf →
    EvF Tryd.prog okT 67 [.agg ⟨cs⟩, .func (.func g) #[] cap] H fun v H' => ∃ cs', v = .agg ⟨cs'⟩ ∧ RepS H' (Rg H.next H'.next) (subO σ t) cs' ∧ HX H H' := by
  induction m with
  | zero => intro t cs H h; omega
  | succ m ih =>
  intro t cs H hsz r hf hj hw
  have r0 := r
  have hbd := r.bd
  have hfew := z9g hf
  have hvar := (z1s hf.node).2.2.2.1
  obtain ⟨a, c, cells, rfl, -, -, -, -, -, rl⟩ := r.six
  refine EvF.enter rfl Tryd.func67 (by decide) rfl ?_
  (repeat refine EvC.seq ?_); refine EvC.reg ?_; simp (config := { maxSteps := 2000000 }) (disch := first | omega | rfl) only [sB, initTm, dBox, dAlloc, Value.cells, one, reduceCtorEq, zr26]
  obtain ⟨H2, e2, hx2, gp, gq, hn2, hw2⟩ := new2 hw (.row (six t a c) 26) (.row zero6 26)
  simp only [e2]
  have q1 := row6 gp
  clear e2
  have hmost : t.args.length ≤ most := by unfold most; omega
  have ne1 : (H.next + 1 = H.next) = False := by simp
  have ne2 : (H.next = H.next + 1) = False := by simp
  by_cases k1 : t.kind = 1
  · repeat' (first | refine EvC.seq ?_ | refine EvC.scope ?_ | refine EvC.block ?_ | (refine EvC.skip ?_) | (refine EvC.exit ?_) | (refine EvC.ret ?_; try simp only [z01, z00]) | (refine EvC.reg ?_; simp (config := { maxSteps := 2000000 }) (disch := first | omega | rfl) only [sB, Nat.reduceEqDiff, reduceCtorEq, z0y, ld3, z51, q1, z1p k1, z0o, z0f hg]) | (refine EvC.condT ?_ ?_; simp (config := { maxSteps := 2000000 }) (disch := first | omega | rfl) only [sB, Nat.reduceEqDiff, reduceCtorEq]; refine z03 ?_))
    refine (B.step t.var H2 hbd.var (B.stay _ _ hj hx2) hw2).mono ?_
    rintro v H3 ⟨hx3, h3⟩
    have gq3 := hx3.get hw2 gq
    have gp3 := hx3.get hw2 gp
    rcases h3 with ⟨u, cs, hσ, rfl, r3⟩ | ⟨hσ, rfl⟩
    · obtain ⟨a3, c3, zl6, rfl, -⟩ := r3.six
      repeat' (first | refine EvC.seq ?_ | refine EvC.scope ?_ | refine EvC.block ?_ | (refine EvC.skip ?_) | (refine EvC.exit ?_) | (refine EvC.ret ?_; try simp only [z01, z00]) | (refine EvC.reg ?_; simp (config := { maxSteps := 2000000 }) (disch := first | omega | rfl) only [sB, Nat.reduceEqDiff, Nat.reduceAdd, reduceCtorEq, cutC, ld26, cl61]) | (refine z0t ?_; simp (config := { maxSteps := 2000000 }) (disch := first | omega | rfl) only [sB, dAlloc, Nat.reduceEqDiff, Nat.reduceAdd, one, reduceCtorEq, zr26, st26]) | (refine EvC.condT ?_ ?_; simp (config := { maxSteps := 2000000 }) (disch := first | omega | rfl) only [sB, Nat.reduceEqDiff, reduceCtorEq]; refine z03 ?_))
      obtain ⟨H4, e4, hx4, g4, hn4, hw4⟩ := z0u hx3.wf (.row zero6 26) (.row (six u a3 c3) 26)
      simp only [e4]
      have hx34 := hx3.trans hx4
      have q4 := row6 g4
      refine (z5j (Nat.lt_succ_self _) (r3.mono hx4 hx3.wf) (B.fine _ _ hσ) hw4).mono ?_
      rintro v H5 ⟨c5, rfl, ⟨a5, k5, rfl, hb5, hf5⟩, hx5⟩
      have gq5 := hx5.get hw4 (hx4.get hx3.wf gq3)
      have hx25 := hx34.trans hx5
      have n24 := hx34.next
      have n25 := hx25.next
      repeat' (first | refine EvC.seq ?_ | refine EvC.scope ?_ | refine EvC.block ?_ | (refine EvC.skip ?_) | (refine EvC.exit ?_) | (refine EvC.ret ?_; try simp only [z01, z00]) | (refine z0t ?_; simp (config := { maxSteps := 2000000 }) (disch := first | omega | rfl) only [sB, Nat.reduceAdd, one, st26, gq5]))
      refine z1h rfl (by simp only [sB, Nat.reduceEqDiff, reduceCtorEq] <;> rfl) (by simp only [sB, Nat.reduceAdd, cutC, ld26] <;> rfl) ⟨_, rfl, ?_, (hx2.trans hx25).pt (by omega) gq5 _⟩
      rw [z3i k1, hσ]
      refine RepS.to (RepF.toS (T := 26) ⟨a5, k5, rfl, hb5, hf5⟩ hx5.wf) fun n hn hl => ?_
      have := hn.1
      exact ⟨by rw [get_put, if_neg (by omega)], ⟨by omega, hl⟩, hl⟩
    · have q3 := row6 gp3
      try simp (config := { maxSteps := 2000000 }) (disch := first | omega | rfl) only [sB, dAlloc, Nat.reduceEqDiff, Nat.reduceAdd, one, reduceCtorEq, zr26, st26]
      obtain ⟨H4, e4, hx4, g4, hn4, hw4⟩ := z0u hx3.wf (.row zero6 26) (.row zero6 26)
      simp only [e4]
      have gq4 := hx4.get hx3.wf gq3
      have gp4 := hx4.get hx3.wf gp3
      have q4 := row6 gp4
      repeat' (first | refine EvC.seq ?_ | refine EvC.scope ?_ | refine EvC.block ?_ | (refine EvC.skip ?_; try simp only [z02]) | (refine EvC.exit ?_) | (refine EvC.ret ?_; try simp only [z01, z00]) | (refine EvC.reg ?_; simp (config := { maxSteps := 2000000 }) (disch := first | omega | rfl) only [sB, Nat.reduceEqDiff, Nat.reduceAdd, one, reduceCtorEq, st26, ld26, q4, gq4]) | (refine EvC.condT ?_ ?_; simp (config := { maxSteps := 2000000 }) (disch := first | omega | rfl) only [sB, Nat.reduceEqDiff, reduceCtorEq]; refine z03 ?_) | (refine EvC.condF ?_ ?_; simp (config := { maxSteps := 2000000 }) (disch := first | omega | rfl) only [sB, Nat.reduceEqDiff, reduceCtorEq]; refine z03 ?_))
      have hx5 := ((hx2.trans hx3).trans hx4).pt (i := H.next + 1) (Nat.le_succ _) gq4 (some (.row (six t a c) 26))
      refine z1h rfl (by simp only [sB, Nat.reduceEqDiff, reduceCtorEq] <;> rfl) (by simp only [sB, Nat.reduceAdd, cutC, ld26]; rfl) ⟨_, rfl, ?_, hx5⟩
      rw [z3i k1, hσ]
      exact .leaf hbd (z7h hf k1) rl.cap fun h => (rl.nil h).2
  have hsub := z5l (σ := σ) k1
  have hsa : (subO σ t).args = t.args.map (subO σ) := by rw [hsub]; rfl
  have hbd' : Bd (subO σ t) := by rw [hsub]; exact ⟨hbd.kind, hbd.name, hbd.num, hbd.bits, hbd.var⟩
  have hsix : ∀ a c, six (subO σ t) a c = [.int .i64 t.kind, .string t.name, .string t.num, .int .u64 t.bits, .int .i64 t.var, .slice a t.args.length c] := fun a c => by rw [hsub]; simp [six, Tm.kind, Tm.name, Tm.num, Tm.bits, Tm.var, Tm.args]
  have hmk : subO σ t = .mk t.kind t.name t.num t.bits t.var (subO σ t).args := by rw [hsa]; exact hsub
  by_cases h0 : t.args.length = 0
  · have h0' : (t.args.length : Int) = 0 := by omega
    have he : t.args = [] := List.length_eq_zero_iff.1 h0
    repeat' (first | refine EvC.seq ?_ | refine EvC.scope ?_ | refine EvC.block ?_ | (refine EvC.skip ?_; try simp only [z02]) | (refine EvC.exit ?_) | (refine EvC.ret ?_; try simp only [z01, z00]) | (refine EvC.reg ?_; simp (config := { maxSteps := 2000000 }) (disch := first | omega | rfl) only [sB, Nat.reduceEqDiff, Nat.reduceAdd, one, reduceCtorEq, cutC, z0y, ld3, st26, ld26, z19, ld24, ln24, st24, q1, gp, gq, z0x k1, z1p h0', ne1]) | (refine EvC.condT ?_ ?_; simp (config := { maxSteps := 2000000 }) (disch := first | omega | rfl) only [sB, Nat.reduceEqDiff, reduceCtorEq]; refine z03 ?_) | (refine EvC.condF ?_ ?_; simp (config := { maxSteps := 2000000 }) (disch := first | omega | rfl) only [sB, Nat.reduceEqDiff, reduceCtorEq]; refine z03 ?_))
    have hx3 := (hx2.pt (Nat.le_refl _) gp (some (.row [.int .i64 t.kind, .string t.name, .string t.num, .int .u64 t.bits, .int .i64 t.var, .slice none 0 0] 26))).pt (i := H.next + 1) (Nat.le_succ _) (by rw [get_put, if_neg (by omega)]; exact gq)
      (some (.row [.int .i64 t.kind, .string t.name, .string t.num, .int .u64 t.bits, .int .i64 t.var, .slice none 0 0] 26))
    refine z1h rfl (by simp only [sB, Nat.reduceEqDiff, reduceCtorEq] <;> rfl) (by simp only [sB, Nat.reduceAdd, cutC, ld26]; rfl) ⟨_, rfl, ?_, hx3⟩
    have := RepS.leaf (H := ((H2.put H.next (some (.row [.int .i64 t.kind, .string t.name, .string t.num, .int .u64 t.bits, .int .i64 t.var, .slice none 0 0] 26))).put (H.next + 1) (some (.row [.int .i64 t.kind, .string t.name, .string t.num, .int .u64 t.bits, .int .i64 t.var, .slice none 0 0] 26)))) (S := Rg H.next H2.next) (t := subO σ t) (a := none) (c := 0) hbd' (by rw [hsa, he]; rfl) (Nat.zero_le _) (fun _ => rfl)
    rw [hsix, h0] at this
    exact this
  · have h0' : (t.args.length : Int) ≠ 0 := by omega
    have ne3 : (H.next = H2.next) = False := by simp; omega
    repeat' (first | refine EvC.seq ?_ | refine EvC.scope ?_ | refine EvC.block ?_ | (refine EvC.skip ?_; try simp only [z02]) | (refine EvC.exit ?_) | (refine EvC.ret ?_; try simp only [z01, z00]) | (refine EvC.reg ?_; simp (config := { maxSteps := 2000000 }) (disch := first | omega | rfl) only [sB, Nat.reduceEqDiff, reduceCtorEq, cutC, z0y, ld3, z19, ld24, ln24, q1, z0x k1, z0x h0', z96 mk24, ne3]) | (refine EvC.condT ?_ ?_; simp (config := { maxSteps := 2000000 }) (disch := first | omega | rfl) only [sB, Nat.reduceEqDiff, reduceCtorEq]; refine z03 ?_) | (refine EvC.condF ?_ ?_; simp (config := { maxSteps := 2000000 }) (disch := first | omega | rfl) only [sB, Nat.reduceEqDiff, reduceCtorEq]; refine z03 ?_))
    obtain ⟨H3, e3, hx3, gr, hn3, hw3⟩ := new1 hw2 (.row (repL t.args.length zero6) 26)
    simp only [e3]
    clear e3
    have gp3 := hx3.get hw2 gp
    have gq3 := hx3.get hw2 gq
    have hx23 := hx2.trans hx3
    have hmax := rl.max
    rw [hn2] at gr hn3
    refine EvC.loop (fun k st => ∃ tm H' i cells', st = ⟨tm, [], H'⟩ ∧ k = t.args.length - i ∧ i ≤ t.args.length ∧ tm.get 1 = some (.func (.func g) #[] cap) ∧
      tm.get 2 = some (.pointer (some ⟨H.next, 0, none⟩)) ∧ tm.get 4 = some (.pointer (some ⟨H.next + 1, 0, none⟩)) ∧ tm.get 7 = some (.slice (some ⟨H.next + 2, 0, none⟩) t.args.length t.args.length) ∧
      tm.get 35 = some (.slice a t.args.length c) ∧ tm.get 36 = some (.int .i64 t.args.length) ∧ tm.get 37 = some (.int .i64 (i : Nat)) ∧
      H'.get H.next = some (.row (six t a c) 26) ∧ H'.get (H.next + 1) = some (.row zero6 26) ∧ H'.get (H.next + 2) = some (.row cells' 26) ∧ cells'.length = t.args.length * 6 ∧
      (∀ (j : Nat) (hj : j < t.args.length), j < i → RepS H' (Rg (H.next + 3) H'.next) (subO σ t.args[j]) ((cells'.drop (j * 6)).take 6)) ∧ HX H H') ?_ t.args.length _ ?_
    · rintro k st ⟨tm, H', i, cells', rfl, rfl, hi, t0, t1, t2, t3, t17, t18, t19, gp', gq', gr', hlen, hfl, hx'⟩
      have q1 := row6 gp'
      by_cases hlt : i < t.args.length
      · obtain ⟨b, o, a1, c1, rfl, hld, hr1⟩ := rl.el hlt
        have hld1 := hx'.load hw hld
        repeat' (first | refine EvC.seq ?_ | refine EvC.scope ?_ | refine EvC.block ?_ | (refine EvC.skip ?_; try simp only [z02]) | (refine EvC.exit ?_) | (refine EvC.ret ?_; try simp only [z01, z00]) | (refine EvC.reg ?_; simp (config := { maxSteps := 2000000 }) (disch := first | omega | rfl) only [sB, dAlloc, Nat.reduceEqDiff, Nat.reduceAdd, one, cutC, zr26, st26, ld26, ia24, cl67, t0, t3, t17, t18, t19, decl hlt, hld1]) | (refine EvC.condT ?_ ?_; simp (config := { maxSteps := 2000000 }) (disch := first | omega | rfl) only [sB]; refine z03 ?_))
        obtain ⟨H4, e4, hx4, g4, hn4, hw4⟩ := z0u hx'.wf (.row zero6 26) (.row (six t.args[i] a1 c1) 26)
        simp only [e4]
        clear e4
        have hs := z1q (List.getElem?_eq_getElem hlt)
        refine (ih (t := t.args[i]) (by omega) (hr1.mono (hx'.trans hx4) hw) (hf.args _ (List.getElem_mem _)) (B.stay _ _ hj (hx'.trans hx4)) hw4).mono ?_
        rintro v H5 ⟨cs', rfl, r5, hx5⟩
        obtain ⟨a2, c2, cells2, rfl, -⟩ := r5.rep.six
        have hx45 := hx4.trans hx5
        have gr5 := hx45.get hx'.wf gr'
        have gp5 := hx45.get hx'.wf gp'
        have gq5 := hx45.get hx'.wf gq'
        have hle : i * 6 + 6 ≤ cells'.length := by rw [hlen]; exact mul6 hlt
        have hln := hx45.next
        have hln2 := hx5.next
        have hlt3 := hx'.wf _ _ gq'
        have hlt4 := hx'.wf _ _ gr'
        repeat' (first | refine EvC.seq ?_ | refine EvC.scope ?_ | refine EvC.block ?_ | (refine EvC.skip ?_) | (refine EvC.exit ?_) | (refine EvC.ret ?_; try simp only [z01, z00]) | (refine EvC.reg ?_; simp (config := { maxSteps := 2000000 }) (disch := first | omega | rfl) only [sB, Nat.reduceEqDiff, t19, z05]) | (refine z0t ?_; simp (config := { maxSteps := 2000000 }) (disch := first | omega | rfl) only [sB, Nat.reduceAdd, one, st26, gr5, hle]))
        have hx6 := (hx'.trans hx45).pt (i := H.next + 2) (by omega) gr5 (some (.row (Hb.splice cells' (i * 6) (six (subO σ t.args[i]) a2 c2)) 26))
        have hch : ∀ (j : Nat) (hj : j < t.args.length), j < i + 1 → RepS (H5.put (H.next + 2) (some (.row (Hb.splice cells' (i * 6) (six (subO σ t.args[i]) a2 c2)) 26))) (Rg (H.next + 3) H5.next) (subO σ t.args[j]) (((Hb.splice cells' (i * 6) (six (subO σ t.args[i]) a2 c2)).drop (j * 6)).take 6) := fun j hj hji => by
          by_cases e : j = i
          · subst e
            rw [z3h hle rfl]
            refine r5.to fun n hn hl => ?_
            have := hn.1
            exact ⟨by rw [get_put, if_neg (by omega)], ⟨by omega, hl⟩, hl⟩
          · rw [z2p hle rfl (.inl (mul6 (by omega)))]
            refine (hfl j hj (by omega)).to fun n hn hl => ?_
            have := hn.1
            exact ⟨by rw [get_put, if_neg (by omega)]; exact hx45.keep n hl, ⟨hn.1, Nat.lt_of_lt_of_le hl hln⟩, Nat.lt_of_lt_of_le hl hln⟩
        exact ⟨t.args.length - (i + 1), by omega, _, _, i + 1, Hb.splice cells' (i * 6) (six (subO σ t.args[i]) a2 c2), rfl, rfl, by omega, (by simp only [sG, Nat.reduceEqDiff, t0] <;> rfl), (by simp only [sG, Nat.reduceEqDiff, t1] <;> rfl), (by simp only [sG, Nat.reduceEqDiff, t2] <;> rfl), (by simp only [sG, Nat.reduceEqDiff, t3] <;> rfl), (by simp only [sG, Nat.reduceEqDiff, t17] <;> rfl), (by simp only [sG, Nat.reduceEqDiff, t18] <;> rfl), (by simp only [sB, Nat.reduceEqDiff] <;> rfl),
          by rw [get_put, if_neg (by omega)]; exact gp5, by rw [get_put, if_neg (by omega)]; exact gq5, by rw [get_put, if_pos rfl], by rw [z0e hle]; exact hlen, hch, hx6⟩
      · repeat' (first | refine EvC.seq ?_ | refine EvC.scope ?_ | refine EvC.block ?_ | (refine EvC.skip ?_) | (refine EvC.exit ?_; try simp only [sB]) | (refine EvC.ret ?_; try simp only [z01, z00]) | (refine EvC.reg ?_; simp (config := { maxSteps := 2000000 }) (disch := first | omega | rfl) only [sB, Nat.reduceEqDiff, Nat.reduceAdd, one, cutC, st26, ld26, z19, st24, t1, t2, t3, t18, t19, q1, gp', gq', decn hlt, ne1]) | (refine EvC.condT ?_ ?_; simp (config := { maxSteps := 2000000 }) (disch := first | omega | rfl) only [sB]; refine z03 ?_) | (refine EvC.condF ?_ ?_; simp (config := { maxSteps := 2000000 }) (disch := first | omega | rfl) only [sB]; refine z03 ?_))
        have hi' : i = t.args.length := by omega
        have hlt3 := hx'.wf _ _ gr'
        have hx7 := (hx'.pt (Nat.le_refl _) gp' (some (.row (six t (some ⟨H.next + 2, 0, none⟩) t.args.length) 26))).pt (i := H.next + 1) (Nat.le_succ _) (by rw [get_put, if_neg (by omega)]; exact gq')
          (some (.row (six t (some ⟨H.next + 2, 0, none⟩) t.args.length) 26))
        have hsl : (subO σ t).args.length = t.args.length := by rw [hsa, List.length_map]
        refine z1h rfl (by simp only [sB, Nat.reduceEqDiff, t2] <;> rfl) (by simp only [sB, Nat.reduceAdd, cutC, ld26] <;> rfl) ⟨_, rfl, ?_, hx7⟩
        have := RepS.row (H := ((H'.put H.next (some (.row (six t (some ⟨H.next + 2, 0, none⟩) t.args.length) 26))).put (H.next + 1) (some (.row (six t (some ⟨H.next + 2, 0, none⟩) t.args.length) 26)))) (S := Rg H.next H'.next) (b := H.next + 2) (c := t.args.length) (cells := cells') (T := 26) hbd hmk
          (by rw [get_put, if_neg (by omega), get_put, if_neg (by omega)]; exact gr') ⟨by omega, hlt3⟩ hlt3 (by omega) (by omega) (Nat.le_trans hfew (by simp [maxLen])) (fun j hj => by
            have hj' : j < t.args.length := by omega
            have ej : (subO σ t).args[j] = subO σ t.args[j] := by simp only [hsa, List.getElem_map]
            rw [ej]
            refine (hfl j hj' (by omega)).to fun n hn hl => ?_
            have := hn.1
            exact ⟨by rw [get_put, if_neg (by omega), get_put, if_neg (by omega)], ⟨by omega, hn.2⟩, hl⟩)
        rw [hsix] at this
        exact this
    · refine ⟨_, _, 0, repL t.args.length zero6, rfl, rfl, by omega, (by simp only [sG, Nat.reduceEqDiff, reduceCtorEq] <;> rfl), (by simp only [sG, Nat.reduceEqDiff, reduceCtorEq] <;> rfl), (by simp only [sG, Nat.reduceEqDiff, reduceCtorEq] <;> rfl), by rw [hn2]; first | (simp only [sG, Nat.reduceEqDiff, reduceCtorEq]; rfl) | simp only [sG, Nat.reduceEqDiff, reduceCtorEq], (by simp only [sG, Nat.reduceEqDiff, reduceCtorEq] <;> rfl), (by simp only [sG, Nat.reduceEqDiff, reduceCtorEq] <;> rfl), (by simp only [sB, Nat.reduceEqDiff, reduceCtorEq] <;> rfl), gp3, gq3, gr, by rw [z70]; rfl, fun j hj h => by omega, hx23⟩
end Go.Proofs.YtlllbkjiadcloaaDoor.hb
end

-- U5
section
namespace Go.Proofs.YtlllbkjiadcloaaDoor.hb
open Go Go.RowKit Go.Hb
variable {ok : Ok}
set_option maxRecDepth 10000
attribute [local irreducible] LX LG EL STG SOP SGO SGD SAL SRD SEF SEG SLK SCK ES
def varT (i : Int) : Tm := .mk 1 ByteArray.empty ByteArray.empty 0 i []
def plcZ (L : List Int) (n : Int) : Int := ((L.idxOf? n).getD 0 : Nat)
theorem zjv {i : Int} (h : 0 ≤ i) : Fine (varT i) := by
  unfold Fine
  rw [z3v]
  have hn : nodeS (varT i) = 0 := by
    have hv : ¬ i < 0 := by omega
    have hb : blankB (varT i) = true := by
      have he : isE ByteArray.empty = true := by unfold isE; rw [show ByteArray.empty.toList = [] from z13]; rfl
      simp [blankB, varT, Tm.kind, Tm.name, Tm.num, Tm.bits, Tm.var, Tm.args, he]
    have hu : utfS ByteArray.empty = true := by decide +kernel
    unfold nodeS nodeE
    rw [hb]
    simp [varT, Tm.kind, Tm.name, Tm.num, Tm.bits, Tm.var, Tm.args, hv, hu]
  rw [if_pos hn]
  simp [varT, Tm.args, allL]
theorem zfl (l : List Int) : (uniq l).Nodup := by
  have h : ∀ (l L : List Int), L.Nodup → (l.foldl addU L).Nodup := by
    intro l
    induction l with
    | nil => intro L h; exact h
    | cons n l ih =>
      intro L h
      refine ih _ ?_
      unfold addU
      split
      · exact h
      · rename_i hn
        rw [List.nodup_append]
        exact ⟨h, by simp, fun a ha b hb => by simp at hb; subst hb; exact fun e => hn (e ▸ ha)⟩
  exact h l [] List.nodup_nil
def PlJ (L : List Int) (pm r : Nat) (H : Heap) : Prop := H.wf ∧ H.get pm = some (.row [.map (some r)] 90) ∧ ∃ M, MapR H r M ∧ ∀ m, mGet M m = (L.idxOf? m).map fun i : Nat => Value.int .i64 (i : Int)
end Go.Proofs.YtlllbkjiadcloaaDoor.hb
end

-- U6
section
namespace Go.Proofs.YtlllbkjiadcloaaDoor.hb
open Go Go.RowKit Go.Hb
variable {ok : Ok}
set_option maxRecDepth 10000
attribute [local irreducible] LX LG EL STG SOP SGO SGD SAL SRD SEF SEG SLK SCK ES
def plainL (l : List Tm) : List Tm := l.map (sub fun n => varT (plcZ (uniq (occL l)) n))
theorem IntL.at {H : Heap} {T : TypeId} {S : Nat → Prop} {L : List Int} {a : Option Addr} {n c : Nat} (h : IntL H T S L (.slice a n c)) {i : Nat} (hi : i < L.length) : ∃ b, a = some ⟨b, 0, none⟩ ∧ n = L.length ∧ H.load ⟨b, i, none⟩ 1 = some [.int .i64 L[i]] ∧ S b := by
  rcases h with ⟨rfl, -⟩ | ⟨b, c', h1, -, -, h2, h3⟩
  · simp at hi
  · cases h1
    refine ⟨b, rfl, rfl, ?_, h3⟩
    unfold Heap.load Heap.cells
    simp only [h2]
    have : (List.drop i (L.map fun n => Value.int .i64 n)).take 1 = [.int .i64 L[i]] := by
      rw [List.drop_eq_getElem_cons (by simpa using hi)]; simp
    rw [this]; rfl
end Go.Proofs.YtlllbkjiadcloaaDoor.hb
end

-- Z1
section
namespace Go.Proofs.YtlllbkjiadcloaaDoor.hb
open Go Go.RowKit Go.Hb
variable {ok : Ok}
set_option maxRecDepth 10000
attribute [local irreducible] LX LG EL STG SOP SGO SGD SAL SRD SEF SEG SLK SCK ES
def cmpZ (a b : Int) : Int := if a < b then -1 else if b < a then 1 else 0
def lessS (a b : ByteArray) : Bool := Op.bytesLess a.toList b.toList
def cmpS (a b : ByteArray) : Int := if lessS a b then -1 else if lessS b a then 1 else 0
theorem z8g : ∀ {a b : List UInt8}, Op.bytesLess a b = false → (a == b) = false → Op.bytesLess b a = true
  | [], [], _, h => by simp at h
  | [], _ :: _, h, _ => by simp [Op.bytesLess] at h
  | _ :: _, [], _, _ => by simp [Op.bytesLess]
  | x :: a, y :: b, h, e => by
      simp only [Op.bytesLess] at h ⊢
      rw [Bool.or_eq_false_iff] at h
      have h1 : ¬ x < y := of_decide_eq_false h.1
      by_cases hxy : x = y
      · subst hxy
        have h2 : Op.bytesLess a b = false := by simpa using h.2
        have e2 : (a == b) = false := by simpa using e
        rw [z8g h2 e2]; simp
      · have h3 : y < x := by
          rw [UInt8.lt_iff_toNat_lt] at h1 ⊢
          have : x.toNat ≠ y.toNat := fun q => hxy (UInt8.toNat_inj.1 q)
          omega
        simp [h3]
theorem zck {a b : Int} (h : a < b) : cmpZ a b = -1 := by simp [cmpZ, h]
theorem zcl {a b : Int} (h : b < a) : cmpZ a b = 1 := by
  have : ¬ a < b := by omega
  simp [cmpZ, h, this]
theorem zcm {a b : Int} (h : a = b) : cmpZ a b = 0 := by subst h; simp [cmpZ]
theorem zmp {a b : ByteArray} (h : Op.bytesLess a.toList b.toList = true) : cmpS a b = -1 := by simp [cmpS, lessS, h]
theorem zmq {a b : ByteArray} (h : Op.bytesLess a.toList b.toList = false) (e : (a.toList == b.toList) = true) : cmpS a b = 0 := by
  have e' := beq_iff_eq.1 e
  rw [← e'] at h
  unfold cmpS lessS
  rw [← e', h]
  rfl
theorem zmr {a b : ByteArray} (h : Op.bytesLess a.toList b.toList = false) (e : (a.toList == b.toList) = false) : cmpS a b = 1 := by
  have := z8g h e
  unfold cmpS lessS
  rw [h, this]
  rfl
theorem zho {a : Int} {H : Heap} : EvF Tryd.prog okT 99 [.int .i64 a] H fun v H' => v = .bool false ∧ H' = H := by
  refine EvF.enter rfl Tryd.func99 (by decide) rfl ?_
  repeat' (first | refine EvC.seq ?_ | refine EvC.scope ?_ | refine EvC.block ?_ | (refine EvC.skip ?_) | (refine EvC.exit ?_) | (refine EvC.ret ?_; try simp only [z01, z00]) | (refine EvC.reg ?_; simp (config := { maxSteps := 2000000 }) (disch := first | omega | rfl) only [sB, initTm, Nat.reduceEqDiff, reduceCtorEq, z17]))
  exact z04 rfl (by simp only [sG, Nat.reduceEqDiff, reduceCtorEq] <;> rfl) ⟨rfl, rfl⟩
theorem z5m {a b : Int} {H : Heap} : EvF Tryd.prog okT 83 [.int .i64 a, .int .i64 b] H fun v H' => v = .int .i64 (cmpZ a b) ∧ H' = H := by
  refine EvF.enter rfl Tryd.func83 (by decide) rfl ?_
  repeat' (first | refine EvC.seq ?_ | refine EvC.scope ?_ | refine EvC.block ?_ | (refine EvC.skip ?_) | (refine EvC.exit ?_) | (refine EvC.ret ?_; try simp only [z01, z00]) | (refine EvC.reg ?_; simp (config := { maxSteps := 2000000 }) (disch := first | omega | rfl) only [sB, initTm, Nat.reduceEqDiff, reduceCtorEq, cl99]))
  refine zho.mono ?_
  rintro v H1 ⟨rfl, rfl⟩
  repeat' (first | refine EvC.seq ?_ | refine EvC.scope ?_ | refine EvC.block ?_ | (refine EvC.skip ?_) | (refine EvC.exit ?_) | (refine EvC.ret ?_; try simp only [z01, z00]) | (refine EvC.reg ?_; simp (config := { maxSteps := 2000000 }) (disch := first | omega | rfl) only [sB, Nat.reduceEqDiff, reduceCtorEq, cl99]))
  refine zho.mono ?_
  rintro v H2 ⟨rfl, rfl⟩
  by_cases h1 : a < b
  · repeat' (first | refine EvC.seq ?_ | refine EvC.scope ?_ | refine EvC.block ?_ | (refine EvC.skip ?_; try simp only [z02]) | (refine EvC.exit ?_) | (refine EvC.ret ?_; try simp only [z01, z00]) | (refine EvC.reg ?_; simp (config := { maxSteps := 2000000 }) (disch := first | omega | rfl) only [sB, Nat.reduceEqDiff, reduceCtorEq, decide_eq_true]) | (refine EvC.condT ?_ ?_; simp (config := { maxSteps := 2000000 }) (disch := first | omega | rfl) only [sB, Nat.reduceEqDiff, reduceCtorEq]; refine z03 ?_) | (refine EvC.condF ?_ ?_; simp (config := { maxSteps := 2000000 }) (disch := first | omega | rfl) only [sB, Nat.reduceEqDiff, reduceCtorEq]; refine z03 ?_))
    exact z04 rfl (by simp only [sB, Nat.reduceEqDiff, reduceCtorEq] <;> rfl) ⟨by rw [zck h1], rfl⟩
  · by_cases h2 : b < a
    · repeat' (first | refine EvC.seq ?_ | refine EvC.scope ?_ | refine EvC.block ?_ | (refine EvC.skip ?_; try simp only [z02]) | (refine EvC.exit ?_) | (refine EvC.ret ?_; try simp only [z01, z00]) | (refine EvC.reg ?_; simp (config := { maxSteps := 2000000 }) (disch := first | omega | rfl) only [sB, Nat.reduceEqDiff, reduceCtorEq, decide_eq_true, decide_eq_false]) | (refine EvC.condT ?_ ?_; simp (config := { maxSteps := 2000000 }) (disch := first | omega | rfl) only [sB, Nat.reduceEqDiff, reduceCtorEq]; refine z03 ?_) | (refine EvC.condF ?_ ?_; simp (config := { maxSteps := 2000000 }) (disch := first | omega | rfl) only [sB, Nat.reduceEqDiff, reduceCtorEq]; refine z03 ?_))
      exact z04 rfl (by simp only [sB, Nat.reduceEqDiff, reduceCtorEq] <;> rfl) ⟨by rw [zcl h2], rfl⟩
    · repeat' (first | refine EvC.seq ?_ | refine EvC.scope ?_ | refine EvC.block ?_ | (refine EvC.skip ?_; try simp only [z02]) | (refine EvC.exit ?_) | (refine EvC.ret ?_; try simp only [z01, z00]) | (refine EvC.reg ?_; simp (config := { maxSteps := 2000000 }) (disch := first | omega | rfl) only [sB, Nat.reduceEqDiff, reduceCtorEq, decide_eq_false]) | (refine EvC.condT ?_ ?_; simp (config := { maxSteps := 2000000 }) (disch := first | omega | rfl) only [sB, Nat.reduceEqDiff, reduceCtorEq]; refine z03 ?_) | (refine EvC.condF ?_ ?_; simp (config := { maxSteps := 2000000 }) (disch := first | omega | rfl) only [sB, Nat.reduceEqDiff, reduceCtorEq]; refine z03 ?_))
      exact z04 rfl (by simp only [sB, Nat.reduceEqDiff, reduceCtorEq] <;> rfl) ⟨by rw [zcm (by omega)], rfl⟩
theorem zhp {a : ByteArray} {H : Heap} : EvF Tryd.prog okT 110 [.string a] H fun v H' => v = .bool false ∧ H' = H := by
  refine EvF.enter rfl Tryd.func110 (by decide) rfl ?_
  have e : (a.toList == a.toList) = true := beq_self_eq_true _
  repeat' (first | refine EvC.seq ?_ | refine EvC.scope ?_ | refine EvC.block ?_ | (refine EvC.skip ?_) | (refine EvC.exit ?_) | (refine EvC.ret ?_; try simp only [z01, z00]) | (refine EvC.reg ?_; simp (config := { maxSteps := 2000000 }) (disch := first | omega | rfl) only [sB, initTm, Nat.reduceEqDiff, reduceCtorEq, z15, e, Bool.not_true]))
  exact z04 rfl (by simp only [sG, Nat.reduceEqDiff, reduceCtorEq] <;> rfl) ⟨rfl, rfl⟩
theorem zcn {a b : ByteArray} {H : Heap} : EvF Tryd.prog okT 91 [.string a, .string b] H fun v H' => v = .int .i64 (cmpS a b) ∧ H' = H := by
  refine EvF.enter rfl Tryd.func91 (by decide) rfl ?_
  repeat' (first | refine EvC.seq ?_ | refine EvC.scope ?_ | refine EvC.block ?_ | (refine EvC.skip ?_) | (refine EvC.exit ?_) | (refine EvC.ret ?_; try simp only [z01, z00]) | (refine EvC.reg ?_; simp (config := { maxSteps := 2000000 }) (disch := first | omega | rfl) only [sB, initTm, Nat.reduceEqDiff, reduceCtorEq, znj]))
  refine zhp.mono ?_
  rintro v H1 ⟨rfl, rfl⟩
  repeat' (first | refine EvC.seq ?_ | refine EvC.scope ?_ | refine EvC.block ?_ | (refine EvC.skip ?_) | (refine EvC.exit ?_) | (refine EvC.ret ?_; try simp only [z01, z00]) | (refine EvC.reg ?_; simp (config := { maxSteps := 2000000 }) (disch := first | omega | rfl) only [sB, Nat.reduceEqDiff, reduceCtorEq, znj]))
  refine zhp.mono ?_
  rintro v H2 ⟨rfl, rfl⟩
  cases h1 : Op.bytesLess a.toList b.toList
  · cases h2 : a.toList == b.toList
    · repeat' (first | refine EvC.seq ?_ | refine EvC.scope ?_ | refine EvC.block ?_ | (refine EvC.skip ?_; try simp only [z02]) | (refine EvC.exit ?_) | (refine EvC.ret ?_; try simp only [z01, z00]) | (refine EvC.reg ?_; simp (config := { maxSteps := 2000000 }) (disch := first | omega | rfl) only [sB, Nat.reduceEqDiff, reduceCtorEq, zlp, zne, h1, h2, Bool.or_self, Bool.not_false]) | (refine EvC.condT ?_ ?_; simp (config := { maxSteps := 2000000 }) (disch := first | omega | rfl) only [sB, Nat.reduceEqDiff, reduceCtorEq]; refine z03 ?_) | (refine EvC.condF ?_ ?_; simp (config := { maxSteps := 2000000 }) (disch := first | omega | rfl) only [sB, Nat.reduceEqDiff, reduceCtorEq]; refine z03 ?_))
      exact z04 rfl (by simp only [sB, Nat.reduceEqDiff, reduceCtorEq] <;> rfl) ⟨by rw [zmr h1 h2], rfl⟩
    · repeat' (first | refine EvC.seq ?_ | refine EvC.scope ?_ | refine EvC.block ?_ | (refine EvC.skip ?_; try simp only [z02]) | (refine EvC.exit ?_) | (refine EvC.ret ?_; try simp only [z01, z00]) | (refine EvC.reg ?_; simp (config := { maxSteps := 2000000 }) (disch := first | omega | rfl) only [sB, Nat.reduceEqDiff, reduceCtorEq, zlp, zne, h1, h2, Bool.false_or, Bool.not_true]) | (refine EvC.condT ?_ ?_; simp (config := { maxSteps := 2000000 }) (disch := first | omega | rfl) only [sB, Nat.reduceEqDiff, reduceCtorEq]; refine z03 ?_) | (refine EvC.condF ?_ ?_; simp (config := { maxSteps := 2000000 }) (disch := first | omega | rfl) only [sB, Nat.reduceEqDiff, reduceCtorEq]; refine z03 ?_))
      exact z04 rfl (by simp only [sB, Nat.reduceEqDiff, reduceCtorEq] <;> rfl) ⟨by rw [zmq h1 h2], rfl⟩
  · repeat' (first | refine EvC.seq ?_ | refine EvC.scope ?_ | refine EvC.block ?_ | (refine EvC.skip ?_; try simp only [z02]) | (refine EvC.exit ?_) | (refine EvC.ret ?_; try simp only [z01, z00]) | (refine EvC.reg ?_; simp (config := { maxSteps := 2000000 }) (disch := first | omega | rfl) only [sB, Nat.reduceEqDiff, reduceCtorEq, zlp, h1]) | (refine EvC.condT ?_ ?_; simp (config := { maxSteps := 2000000 }) (disch := first | omega | rfl) only [sB, Nat.reduceEqDiff, reduceCtorEq]; refine z03 ?_) | (refine EvC.condF ?_ ?_; simp (config := { maxSteps := 2000000 }) (disch := first | omega | rfl) only [sB, Nat.reduceEqDiff, reduceCtorEq]; refine z03 ?_))
    exact z04 rfl (by simp only [sB, Nat.reduceEqDiff, reduceCtorEq] <;> rfl) ⟨by rw [zmp h1], rfl⟩
end Go.Proofs.YtlllbkjiadcloaaDoor.hb
end

-- Z2
section
namespace Go.Proofs.YtlllbkjiadcloaaDoor.hb
open Go Go.RowKit Go.Hb
variable {ok : Ok}
set_option maxRecDepth 10000
attribute [local irreducible] LX LG EL STG SOP SGO SGD SAL SRD SEF SEG SLK SCK ES
set_option maxHeartbeats 2000000 in
theorem zms {x y : Int} {c p : Nat} {H : Heap} (h0 : H.load ⟨p, 0, none⟩ 1 = some [.int .i64 x]) (h1 : H.load ⟨p, 1, none⟩ 1 = some [.int .i64 y]) :
    EvF Tryd.prog okT 90 [.slice (some ⟨p, 0, none⟩) 2 c] H fun v H' => v = .int .i64 (orZ x y) ∧ H' = H := by
  refine EvF.enter rfl Tryd.func90 (by decide) rfl ?_
  repeat' (first | refine EvC.seq ?_ | refine EvC.scope ?_ | refine EvC.block ?_ | (refine EvC.skip ?_) | (refine EvC.exit ?_) | (refine EvC.ret ?_; try simp only [z01, z00]) | (refine EvC.reg ?_; simp (config := { maxSteps := 2000000 }) (disch := first | omega | rfl) only [sB, initTm, Nat.reduceEqDiff, reduceCtorEq, ln46]))
  refine EvC.loop (fun k st => ∃ tm i, st = ⟨tm, [], H⟩ ∧ k = 2 - i ∧ i ≤ 2 ∧ (0 < i → x = 0) ∧ (1 < i → y = 0) ∧ tm.get 3 = some (.int .i64 0) ∧ tm.get 6 = some (.slice (some ⟨p, 0, none⟩) 2 c) ∧ tm.get 7 = some (.int .i64 (2 : Nat)) ∧ tm.get 8 = some (.int .i64 (i : Nat))) ?_ 2 _ ?_
  · rintro k st ⟨tm, i, rfl, rfl, hi, hx, hy, g3, g6, g7, g8⟩
    by_cases h2 : i = 2
    · subst h2
      repeat' (first | refine EvC.seq ?_ | refine EvC.scope ?_ | refine EvC.block ?_ | (refine EvC.skip ?_) | (refine EvC.exit ?_; try simp only [sB]) | (refine EvC.ret ?_; try simp only [z01, z00]) | (refine EvC.reg ?_; simp (config := { maxSteps := 2000000 }) (disch := first | omega | rfl) only [sB, Nat.reduceEqDiff, g3, g7, g8, decide_eq_false]) | (refine EvC.condT ?_ ?_; simp (config := { maxSteps := 2000000 }) (disch := first | omega | rfl) only [sB]; refine z03 ?_) | (refine EvC.condF ?_ ?_; simp (config := { maxSteps := 2000000 }) (disch := first | omega | rfl) only [sB]; refine z03 ?_))
      exact z04 rfl (by simp only [sB, Nat.reduceEqDiff] <;> rfl) ⟨by simp [orZ, hx, hy], rfl⟩
    · have hl : ∃ z, H.load ⟨p, i, none⟩ 1 = some [.int .i64 z] ∧ z = if i = 0 then x else y := by
        by_cases h0' : i = 0
        · subst h0'; exact ⟨x, h0, rfl⟩
        · have : i = 1 := by omega
          subst this; exact ⟨y, h1, rfl⟩
      obtain ⟨z, hl, hz⟩ := hl
      by_cases hz0 : z = 0
      · repeat' (first | refine EvC.seq ?_ | refine EvC.scope ?_ | refine EvC.block ?_ | (refine EvC.skip ?_; try simp only [sA]) | (refine EvC.exit ?_) | (refine EvC.ret ?_; try simp only [z01, z00]) | (refine EvC.reg ?_; simp (config := { maxSteps := 2000000 }) (disch := first | omega | rfl) only [sB, Nat.reduceEqDiff, ia46, ld3, g3, g6, g7, g8, hl, z17 hz0, decide_eq_true, z05]) | (refine EvC.condT ?_ ?_; simp (config := { maxSteps := 2000000 }) (disch := first | omega | rfl) only [sB, Nat.reduceEqDiff]; refine z03 ?_) | (refine EvC.condF ?_ ?_; simp (config := { maxSteps := 2000000 }) (disch := first | omega | rfl) only [sB, Nat.reduceEqDiff]; refine z03 ?_))
        exact ⟨2 - (i + 1), by omega, _, i + 1, rfl, rfl, by omega, fun _ => by
          by_cases h0' : i = 0
          · rw [hz, if_pos h0'] at hz0; exact hz0
          · exact hx (by omega), fun h => by
          rw [hz, if_neg (by omega)] at hz0; exact hz0, (by simp only [sG, Nat.reduceEqDiff, g3] <;> rfl), (by simp only [sG, Nat.reduceEqDiff, g6] <;> rfl), (by simp only [sG, Nat.reduceEqDiff, g7] <;> rfl), (by simp only [sB, Nat.reduceEqDiff] <;> rfl)⟩
      · repeat' (first | refine EvC.seq ?_ | refine EvC.scope ?_ | refine EvC.block ?_ | (refine EvC.skip ?_; try simp only [z02]) | (refine EvC.exit ?_) | (refine EvC.ret ?_; try simp only [z01, z00]) | (refine EvC.reg ?_; simp (config := { maxSteps := 2000000 }) (disch := first | omega | rfl) only [sB, Nat.reduceEqDiff, ia46, ld3, g3, g6, g7, g8, hl, z31 hz0, decide_eq_true]) | (refine EvC.condT ?_ ?_; simp (config := { maxSteps := 2000000 }) (disch := first | omega | rfl) only [sB, Nat.reduceEqDiff]; refine z03 ?_))
        refine z04 rfl (by simp only [sB, Nat.reduceEqDiff] <;> rfl) ⟨?_, rfl⟩
        by_cases h0' : i = 0
        · rw [if_pos h0'] at hz; subst hz; simp [orZ, hz0]
        · rw [if_neg h0'] at hz; subst hz; simp [orZ, hx (by omega)]
  · exact ⟨_, 0, rfl, rfl, by omega, by omega, by omega, (by simp only [sG, Nat.reduceEqDiff, reduceCtorEq] <;> rfl), (by simp only [sG, Nat.reduceEqDiff, reduceCtorEq] <;> rfl), (by simp only [sG, Nat.reduceEqDiff, reduceCtorEq] <;> rfl), (by simp only [sB, Nat.reduceEqDiff, reduceCtorEq] <;> rfl)⟩
def rankZ (k : Int) : Int := if k = 1 then 0 else if k = 4 then 1 else if k = 3 then 2 else if k = 2 then 3 else 4
theorem zhq {k : Int} {H : Heap} : EvF Tryd.prog okT 86 [.int .i64 k] H fun v H' => v = .int .i64 (rankZ k) ∧ H' = H := by
  refine EvF.enter rfl Tryd.func86 (by decide) rfl ?_
  by_cases h1 : k = 1
  · repeat' (first | refine EvC.seq ?_ | refine EvC.scope ?_ | refine EvC.block ?_ | (refine EvC.skip ?_) | (refine EvC.exit ?_) | (refine EvC.ret ?_; try simp only [z01, z00]) | (refine EvC.reg ?_; simp (config := { maxSteps := 2000000 }) (disch := first | omega | rfl) only [sB, initTm, Nat.reduceEqDiff, reduceCtorEq, z1p h1]) | (refine EvC.condT ?_ ?_; simp (config := { maxSteps := 2000000 }) (disch := first | omega | rfl) only [sB, Nat.reduceEqDiff, reduceCtorEq]; refine z03 ?_))
    exact z04 rfl (by simp only [sB, Nat.reduceEqDiff, reduceCtorEq] <;> rfl) ⟨by simp [rankZ, h1], rfl⟩
  by_cases h2 : k = 4
  · repeat' (first | refine EvC.seq ?_ | refine EvC.scope ?_ | refine EvC.block ?_ | (refine EvC.skip ?_) | (refine EvC.exit ?_) | (refine EvC.ret ?_; try simp only [z01, z00]) | (refine EvC.reg ?_; simp (config := { maxSteps := 2000000 }) (disch := first | omega | rfl) only [sB, initTm, Nat.reduceEqDiff, reduceCtorEq, z0x h1, z1p h2]) | (refine EvC.condT ?_ ?_; simp (config := { maxSteps := 2000000 }) (disch := first | omega | rfl) only [sB, Nat.reduceEqDiff, reduceCtorEq]; refine z03 ?_) | (refine EvC.condF ?_ ?_; simp (config := { maxSteps := 2000000 }) (disch := first | omega | rfl) only [sB, Nat.reduceEqDiff, reduceCtorEq]; refine z03 ?_))
    exact z04 rfl (by simp only [sB, Nat.reduceEqDiff, reduceCtorEq] <;> rfl) ⟨by simp [rankZ, h2], rfl⟩
  by_cases h3 : k = 3
  · repeat' (first | refine EvC.seq ?_ | refine EvC.scope ?_ | refine EvC.block ?_ | (refine EvC.skip ?_) | (refine EvC.exit ?_) | (refine EvC.ret ?_; try simp only [z01, z00]) | (refine EvC.reg ?_; simp (config := { maxSteps := 2000000 }) (disch := first | omega | rfl) only [sB, initTm, Nat.reduceEqDiff, reduceCtorEq, z0x h1, z0x h2, z1p h3]) | (refine EvC.condT ?_ ?_; simp (config := { maxSteps := 2000000 }) (disch := first | omega | rfl) only [sB, Nat.reduceEqDiff, reduceCtorEq]; refine z03 ?_) | (refine EvC.condF ?_ ?_; simp (config := { maxSteps := 2000000 }) (disch := first | omega | rfl) only [sB, Nat.reduceEqDiff, reduceCtorEq]; refine z03 ?_))
    exact z04 rfl (by simp only [sB, Nat.reduceEqDiff, reduceCtorEq] <;> rfl) ⟨by simp [rankZ, h3], rfl⟩
  by_cases h4 : k = 2
  · repeat' (first | refine EvC.seq ?_ | refine EvC.scope ?_ | refine EvC.block ?_ | (refine EvC.skip ?_) | (refine EvC.exit ?_) | (refine EvC.ret ?_; try simp only [z01, z00]) | (refine EvC.reg ?_; simp (config := { maxSteps := 2000000 }) (disch := first | omega | rfl) only [sB, initTm, Nat.reduceEqDiff, reduceCtorEq, z0x h1, z0x h2, z0x h3, z1p h4]) | (refine EvC.condT ?_ ?_; simp (config := { maxSteps := 2000000 }) (disch := first | omega | rfl) only [sB, Nat.reduceEqDiff, reduceCtorEq]; refine z03 ?_) | (refine EvC.condF ?_ ?_; simp (config := { maxSteps := 2000000 }) (disch := first | omega | rfl) only [sB, Nat.reduceEqDiff, reduceCtorEq]; refine z03 ?_))
    exact z04 rfl (by simp only [sB, Nat.reduceEqDiff, reduceCtorEq] <;> rfl) ⟨by simp [rankZ, h4], rfl⟩
  repeat' (first | refine EvC.seq ?_ | refine EvC.scope ?_ | refine EvC.block ?_ | (refine EvC.skip ?_; try simp only [sA]) | (refine EvC.exit ?_) | (refine EvC.ret ?_; try simp only [z01, z00]) | (refine EvC.reg ?_; simp (config := { maxSteps := 2000000 }) (disch := first | omega | rfl) only [sB, initTm, Nat.reduceEqDiff, reduceCtorEq, z0x h1, z0x h2, z0x h3, z0x h4]) | (refine EvC.condT ?_ ?_; simp (config := { maxSteps := 2000000 }) (disch := first | omega | rfl) only [sB, Nat.reduceEqDiff, reduceCtorEq]; refine z03 ?_) | (refine EvC.condF ?_ ?_; simp (config := { maxSteps := 2000000 }) (disch := first | omega | rfl) only [sB, Nat.reduceEqDiff, reduceCtorEq]; refine z03 ?_))
  exact z04 rfl (by simp only [sB, Nat.reduceEqDiff, reduceCtorEq] <;> rfl) ⟨by simp [rankZ, h1, h2, h3, h4], rfl⟩
end Go.Proofs.YtlllbkjiadcloaaDoor.hb
end

-- Z3
section
namespace Go.Proofs.YtlllbkjiadcloaaDoor.hb
open Go Go.RowKit Go.Hb
variable {ok : Ok}
set_option maxRecDepth 10000
attribute [local irreducible] LX LG EL STG SOP SGO SGD SAL SRD SEF SEG SLK SCK ES
def numZ (a b : ByteArray) : Int :=
  if negS (bl a) && !negS (bl b) then -1 else if negS (bl b) && !negS (bl a) then 1
  else if negS (bl a) then -(orZ (cmpZ a.size b.size) (cmpS a b)) else orZ (cmpZ a.size b.size) (cmpS a b)
theorem z1y (a b : Int) : -1 ≤ cmpZ a b ∧ cmpZ a b ≤ 1 := by
  unfold cmpZ; split
  · omega
  · split <;> omega
theorem z5n (a b : ByteArray) : -1 ≤ cmpS a b ∧ cmpS a b ≤ 1 := by
  unfold cmpS; split
  · omega
  · split <;> omega
theorem z7i {x y : Int} (h : -1 ≤ x ∧ x ≤ 1) (h' : -1 ≤ y ∧ y ≤ 1) : -1 ≤ orZ x y ∧ orZ x y ≤ 1 := by
  unfold orZ; split <;> assumption
theorem zmt {s : ByteArray} (h : 1 ≤ s.size) : ((s.extract 0 1).data.toList == (⟨#[45]⟩ : ByteArray).data.toList) = negS (bl s) := by
  rw [ByteArray.data_extract, Array.toList_extract, List.extract_eq_take_drop]
  unfold negS bl
  have hs : 1 ≤ s.data.toList.length := by simpa using h
  cases hh : s.data.toList with
  | nil => rw [hh] at hs; simp at hs
  | cons u l =>
    simp only [List.drop_zero, Nat.sub_zero, List.take_succ_cons, List.take_zero, List.map_cons, List.head?_cons]
    by_cases hu : u = 45
    · subst hu; rfl
    · have h1 : ([u] == ([45] : List UInt8)) = false := by simp [hu]
      have h2 : (some u.toNat == some 45) = false := by
        simp only [Option.some_beq_some]
        exact beq_eq_false_iff_ne.2 fun q => hu (UInt8.toNat_inj.1 q)
      exact h1.trans h2.symm
theorem zjw {s : ByteArray} (h : s.size = 0) : negS (bl s) = false := by
  have : s.data.toList = [] := List.length_eq_zero_iff.1 (by simpa using h)
  unfold negS bl; rw [this]; rfl
theorem zfm {s : ByteArray} {H : Heap} (hs : s.size ≤ maxLen) : EvF Tryd.prog okT 129 [.string s, .string ⟨#[45]⟩] H fun v H' => v = .bool (negS (bl s)) ∧ H' = H := by
  have one : (⟨#[45]⟩ : ByteArray).size = 1 := rfl
  refine EvF.enter rfl Tryd.func129 (by decide) rfl ?_
  by_cases h : 1 ≤ s.size
  · have hsl : dSl Tryd.prog 9 (.string s) none (some (.int .i64 (1 : Nat))) none H = some (.val (.string (s.extract 0 1)) H) := zf5 (m := 1) us9 h
    repeat' (first | refine EvC.seq ?_ | refine EvC.scope ?_ | refine EvC.block ?_ | (refine EvC.skip ?_) | (refine EvC.exit ?_) | (refine EvC.ret ?_; try simp only [z01, z00]) | (refine EvC.reg ?_; simp (config := { maxSteps := 2000000 }) (disch := first | omega | rfl) only [sB, initTm, Nat.reduceEqDiff, reduceCtorEq, ln9, one, decide_eq_true, hsl, z3t, zmt h]))
    exact z04 rfl (by simp only [sG, Nat.reduceEqDiff, reduceCtorEq] <;> rfl) ⟨rfl, rfl⟩
  · repeat' (first | refine EvC.seq ?_ | refine EvC.scope ?_ | refine EvC.block ?_ | (refine EvC.skip ?_) | (refine EvC.exit ?_) | (refine EvC.ret ?_; try simp only [z01, z00]) | (refine EvC.reg ?_; simp (config := { maxSteps := 2000000 }) (disch := first | omega | rfl) only [sB, initTm, Nat.reduceEqDiff, reduceCtorEq, ln9, one, decide_eq_false]))
    exact z04 rfl (by simp only [sB, Nat.reduceEqDiff, reduceCtorEq] <;> rfl) ⟨by rw [zjw (by omega)], rfl⟩
theorem zb3 {s : ByteArray} {H : Heap} (hs : s.size ≤ maxLen) : EvF Tryd.prog okT 108 [.string s, .string ⟨#[45]⟩] H fun v H' => v = .bool (negS (bl s)) ∧ H' = H := by
  refine EvF.enter rfl Tryd.func108 (by decide) rfl ?_
  repeat' (first | refine EvC.seq ?_ | refine EvC.scope ?_ | refine EvC.block ?_ | (refine EvC.skip ?_) | (refine EvC.exit ?_) | (refine EvC.ret ?_; try simp only [z01, z00]) | (refine EvC.reg ?_; simp (config := { maxSteps := 2000000 }) (disch := first | omega | rfl) only [sB, initTm, Nat.reduceEqDiff, reduceCtorEq, zop]))
  refine (zfm hs).mono ?_
  rintro v H1 ⟨rfl, rfl⟩
  repeat' (first | refine EvC.seq ?_ | refine EvC.scope ?_ | refine EvC.block ?_ | (refine EvC.skip ?_) | (refine EvC.exit ?_) | (refine EvC.ret ?_; try simp only [z01, z00]))
  exact z04 rfl (by simp only [sG, Nat.reduceEqDiff, reduceCtorEq] <;> rfl) ⟨rfl, rfl⟩
end Go.Proofs.YtlllbkjiadcloaaDoor.hb
end

-- Z4
section
namespace Go.Proofs.YtlllbkjiadcloaaDoor.hb
open Go Go.RowKit Go.Hb
variable {ok : Ok}
set_option maxRecDepth 10000
attribute [local irreducible] LX LG EL STG SOP SGO SGD SAL SRD SEF SEG SLK SCK ES
theorem z59 {x y : Value} {ty : TypeId} {H : Heap} : (H.new (some (Blk.row [x, y] ty))).load ⟨H.next, 0, none⟩ 1 = some [x] ∧ (H.new (some (Blk.row [x, y] ty))).load ⟨H.next, 1, none⟩ 1 = some [y] := by
  constructor <;> simp only [Heap.load, Heap.cells, Heap.get_new, if_pos] <;> rfl
set_option maxHeartbeats 2000000 in
theorem zfn {a b : ByteArray} {H : Heap} (ha : a.size ≤ maxLen) (hb : b.size ≤ maxLen) (hw : H.wf) : EvF Tryd.prog okT 87 [.string a, .string b] H fun v H' => v = .int .i64 (numZ a b) ∧ HX H H' := by
  refine EvF.enter rfl Tryd.func87 (by decide) rfl ?_
  repeat' (first | refine EvC.seq ?_ | refine EvC.scope ?_ | refine EvC.block ?_ | (refine EvC.skip ?_) | (refine EvC.exit ?_) | (refine EvC.ret ?_; try simp only [z01, z00]) | (refine EvC.reg ?_; simp (config := { maxSteps := 2000000 }) (disch := first | omega | rfl) only [sB, initTm, Nat.reduceEqDiff, reduceCtorEq, zod]))
  refine (zb3 ha).mono ?_
  rintro v H1 ⟨rfl, rfl⟩
  repeat' (first | refine EvC.seq ?_ | refine EvC.scope ?_ | refine EvC.block ?_ | (refine EvC.skip ?_) | (refine EvC.exit ?_) | (refine EvC.ret ?_; try simp only [z01, z00]))
  refine (zb3 hb).mono ?_
  rintro v H2 ⟨rfl, rfl⟩
  have hr := z7i (z1y a.size b.size) (z5n a b)
  cases hx : negS (bl a) <;> cases hy : negS (bl b)
  · repeat' (first | refine EvC.seq ?_ | refine EvC.scope ?_ | refine EvC.block ?_ | (refine EvC.skip ?_; try simp only [sA]) | (refine EvC.exit ?_) | (refine EvC.ret ?_; try simp only [z01, z00]) | (refine EvC.reg ?_; simp (config := { maxSteps := 2000000 }) (disch := first | omega | rfl) only [sB, Nat.reduceEqDiff, Nat.reduceAdd, Value.cells, reduceCtorEq, layC, ln9, cl83, cl91, zgw, Bool.false_eq_true]) | (refine EvC.condT ?_ ?_; simp (config := { maxSteps := 2000000 }) (disch := first | omega | rfl) only [sB, Nat.reduceEqDiff, reduceCtorEq]; refine z03 ?_) | (refine EvC.condF ?_ ?_; simp (config := { maxSteps := 2000000 }) (disch := first | omega | rfl) only [sB, Nat.reduceEqDiff, reduceCtorEq]; refine z03 ?_))
    refine z5m.mono ?_
    rintro v H1 ⟨rfl, rfl⟩
    repeat' (first | refine EvC.seq ?_ | refine EvC.scope ?_ | refine EvC.block ?_ | (refine EvC.skip ?_) | (refine EvC.exit ?_) | (refine EvC.ret ?_; try simp only [z01, z00]))
    refine zcn.mono ?_
    rintro v H1 ⟨rfl, rfl⟩
    repeat' (first | refine EvC.seq ?_ | refine EvC.scope ?_ | refine EvC.block ?_ | (refine EvC.skip ?_) | (refine EvC.exit ?_) | (refine EvC.ret ?_; try simp only [z01, z00]) | (refine z0t ?_; simp (config := { maxSteps := 2000000 }) (disch := first | omega | rfl) only [sB, Nat.reduceEqDiff, Nat.reduceAdd, one, reduceCtorEq, Nat.reduceLeDiff, cl90]))
    refine (zms z59.1 z59.2).mono ?_
    rintro v H3 ⟨rfl, rfl⟩
    repeat' (first | refine EvC.seq ?_ | refine EvC.scope ?_ | refine EvC.block ?_ | (refine EvC.skip ?_; try simp only [z02]) | (refine EvC.exit ?_) | (refine EvC.ret ?_; try simp only [z01, z00]) | (refine EvC.reg ?_; simp (config := { maxSteps := 2000000 }) (disch := first | omega | rfl) only [sB, Nat.reduceEqDiff, reduceCtorEq]) | (refine EvC.condT ?_ ?_; simp (config := { maxSteps := 2000000 }) (disch := first | omega | rfl) only [sB, Nat.reduceEqDiff, reduceCtorEq]; refine z03 ?_) | (refine EvC.condF ?_ ?_; simp (config := { maxSteps := 2000000 }) (disch := first | omega | rfl) only [sB, Nat.reduceEqDiff, reduceCtorEq]; refine z03 ?_))
    exact z04 rfl (by simp only [sB, Nat.reduceEqDiff, reduceCtorEq] <;> rfl) ⟨by simp [numZ, hx, hy], (HX.refl hw).new _⟩
  · repeat' (first | refine EvC.seq ?_ | refine EvC.scope ?_ | refine EvC.block ?_ | (refine EvC.skip ?_) | (refine EvC.exit ?_) | (refine EvC.ret ?_; try simp only [z01, z00]) | (refine EvC.reg ?_; simp (config := { maxSteps := 2000000 }) (disch := first | omega | rfl) only [sB, Nat.reduceEqDiff, reduceCtorEq, Bool.not_false, Bool.false_eq_true]) | (refine EvC.condT ?_ ?_; simp (config := { maxSteps := 2000000 }) (disch := first | omega | rfl) only [sB, Nat.reduceEqDiff, reduceCtorEq]; refine z03 ?_) | (refine EvC.condF ?_ ?_; simp (config := { maxSteps := 2000000 }) (disch := first | omega | rfl) only [sB, Nat.reduceEqDiff, reduceCtorEq]; refine z03 ?_))
    exact z04 rfl (by simp only [sB, Nat.reduceEqDiff, reduceCtorEq] <;> rfl) ⟨by simp [numZ, hx, hy], HX.refl hw⟩
  · repeat' (first | refine EvC.seq ?_ | refine EvC.scope ?_ | refine EvC.block ?_ | (refine EvC.skip ?_) | (refine EvC.exit ?_) | (refine EvC.ret ?_; try simp only [z01, z00]) | (refine EvC.reg ?_; simp (config := { maxSteps := 2000000 }) (disch := first | omega | rfl) only [sB, Nat.reduceEqDiff, reduceCtorEq, Bool.not_false]) | (refine EvC.condT ?_ ?_; simp (config := { maxSteps := 2000000 }) (disch := first | omega | rfl) only [sB, Nat.reduceEqDiff, reduceCtorEq]; refine z03 ?_))
    exact z04 rfl (by simp only [sB, Nat.reduceEqDiff, reduceCtorEq] <;> rfl) ⟨by simp [numZ, hx, hy], HX.refl hw⟩
  · repeat' (first | refine EvC.seq ?_ | refine EvC.scope ?_ | refine EvC.block ?_ | (refine EvC.skip ?_; try simp only [sA]) | (refine EvC.exit ?_) | (refine EvC.ret ?_; try simp only [z01, z00]) | (refine EvC.reg ?_; simp (config := { maxSteps := 2000000 }) (disch := first | omega | rfl) only [sB, Nat.reduceEqDiff, Nat.reduceAdd, Value.cells, reduceCtorEq, layC, ln9, cl83, cl91, zgw, Bool.not_true]) | (refine EvC.condT ?_ ?_; simp (config := { maxSteps := 2000000 }) (disch := first | omega | rfl) only [sB, Nat.reduceEqDiff, reduceCtorEq]; refine z03 ?_) | (refine EvC.condF ?_ ?_; simp (config := { maxSteps := 2000000 }) (disch := first | omega | rfl) only [sB, Nat.reduceEqDiff, reduceCtorEq]; refine z03 ?_))
    refine z5m.mono ?_
    rintro v H1 ⟨rfl, rfl⟩
    repeat' (first | refine EvC.seq ?_ | refine EvC.scope ?_ | refine EvC.block ?_ | (refine EvC.skip ?_) | (refine EvC.exit ?_) | (refine EvC.ret ?_; try simp only [z01, z00]))
    refine zcn.mono ?_
    rintro v H1 ⟨rfl, rfl⟩
    repeat' (first | refine EvC.seq ?_ | refine EvC.scope ?_ | refine EvC.block ?_ | (refine EvC.skip ?_) | (refine EvC.exit ?_) | (refine EvC.ret ?_; try simp only [z01, z00]) | (refine z0t ?_; simp (config := { maxSteps := 2000000 }) (disch := first | omega | rfl) only [sB, Nat.reduceEqDiff, Nat.reduceAdd, one, reduceCtorEq, Nat.reduceLeDiff, cl90]))
    refine (zms z59.1 z59.2).mono ?_
    rintro v H3 ⟨rfl, rfl⟩
    repeat' (first | refine EvC.seq ?_ | refine EvC.scope ?_ | refine EvC.block ?_ | (refine EvC.skip ?_) | (refine EvC.exit ?_) | (refine EvC.ret ?_; try simp only [z01, z00]) | (refine EvC.reg ?_; simp (config := { maxSteps := 2000000 }) (disch := first | omega | rfl) only [sB, Nat.reduceEqDiff, reduceCtorEq, zoa, z05]) | (refine EvC.condT ?_ ?_; simp (config := { maxSteps := 2000000 }) (disch := first | omega | rfl) only [sB, Nat.reduceEqDiff, reduceCtorEq]; refine z03 ?_))
    exact z04 rfl (by simp only [sB, Nat.reduceEqDiff, reduceCtorEq] <;> rfl) ⟨by simp [numZ, hx, hy], (HX.refl hw).new _⟩
end Go.Proofs.YtlllbkjiadcloaaDoor.hb
end

-- Z5
section
namespace Go.Proofs.YtlllbkjiadcloaaDoor.hb
open Go Go.RowKit Go.Hb
variable {ok : Ok}
set_option maxRecDepth 10000
attribute [local irreducible] LX LG EL STG SOP SGO SGD SAL SRD SEF SEG SLK SCK ES
end Go.Proofs.YtlllbkjiadcloaaDoor.hb
end

-- Z6
section
namespace Go.Proofs.YtlllbkjiadcloaaDoor.hb
open Go Go.RowKit Go.Hb
variable {ok : Ok}
set_option maxRecDepth 10000
attribute [local irreducible] LX LG EL STG SOP SGO SGD SAL SRD SEF SEG SLK SCK ES
def iOr (k : IntKind) (a b : Int) : Int := k.wrap (BitVec.ofInt k.bits a ||| BitVec.ofInt k.bits b).toNat
def iNot (a : Int) : Int := IntKind.u64.wrap (BitVec.ofInt IntKind.u64.bits IntKind.u64.max ^^^ BitVec.ofInt IntKind.u64.bits a).toNat
def keyF (n : Int) : Int := if 9223372036854775808 ≤ n then 18446744073709551615 - n else n + 9223372036854775808
def fltZ (a b : Int) : Int := cmpZ (keyF a) (keyF b)
end Go.Proofs.YtlllbkjiadcloaaDoor.hb
end

-- Z7
section
namespace Go.Proofs.YtlllbkjiadcloaaDoor.hb
open Go Go.RowKit Go.Hb
variable {ok : Ok}
set_option maxRecDepth 10000
attribute [local irreducible] LX LG EL STG SOP SGO SGD SAL SRD SEF SEG SLK SCK ES
theorem z7j {P : Program} {H : Heap} {t : TypeId} {x y : Operand} {k : FloatKind} {a b : Nat} : dBin P .lss t x y (.float k a) (.float k b) H = some (.val (.bool (k.format.order a b == some .lt)) H) := by
  simp [dBin, dnil, flat, eqGuard, binOp, Op.floatCmp, Sem.bind]; rfl
def ordF (a b : Nat) : Option Ordering := FloatKind.f64.format.order a b
def fltO (a b : Nat) : Int := if ordF a b == some .lt then -1 else if ordF a b == some .gt then 1 else 0
theorem zhr {a : Nat} {H : Heap} (h : (FloatKind.f64.format.order a a != some .eq) = false) : EvF Tryd.prog okT 109 [.float .f64 a] H fun v H' => v = .bool false ∧ H' = H := by
  refine EvF.enter rfl Tryd.func109 (by decide) rfl ?_
  repeat' (first | refine EvC.seq ?_ | refine EvC.scope ?_ | refine EvC.block ?_ | (refine EvC.skip ?_) | (refine EvC.exit ?_) | (refine EvC.ret ?_; try simp only [z01, z00]) | (refine EvC.reg ?_; simp (config := { maxSteps := 2000000 }) (disch := first | omega | rfl) only [sB, initTm, Nat.reduceEqDiff, reduceCtorEq, zav, h]))
  exact z04 rfl (by simp only [sG, Nat.reduceEqDiff, reduceCtorEq] <;> rfl) ⟨rfl, rfl⟩
theorem zmu {a b : Nat} {H : Heap} (ha : (FloatKind.f64.format.order a a != some .eq) = false) (hb : (FloatKind.f64.format.order b b != some .eq) = false) : EvF Tryd.prog okT 88 [.float .f64 a, .float .f64 b] H fun v H' => v = .int .i64 (fltO a b) ∧ H' = H := by
  refine EvF.enter rfl Tryd.func88 (by decide) rfl ?_
  repeat' (first | refine EvC.seq ?_ | refine EvC.scope ?_ | refine EvC.block ?_ | (refine EvC.skip ?_) | (refine EvC.exit ?_) | (refine EvC.ret ?_; try simp only [z01, z00]) | (refine EvC.reg ?_; simp (config := { maxSteps := 2000000 }) (disch := first | omega | rfl) only [sB, initTm, Nat.reduceEqDiff, reduceCtorEq, zni]))
  refine (zhr ha).mono ?_
  rintro v H1 ⟨rfl, rfl⟩
  repeat' (first | refine EvC.seq ?_ | refine EvC.scope ?_ | refine EvC.block ?_ | (refine EvC.skip ?_) | (refine EvC.exit ?_) | (refine EvC.ret ?_; try simp only [z01, z00]) | (refine EvC.reg ?_; simp (config := { maxSteps := 2000000 }) (disch := first | omega | rfl) only [sB, Nat.reduceEqDiff, reduceCtorEq, zni]))
  refine (zhr hb).mono ?_
  rintro v H2 ⟨rfl, rfl⟩
  have hl : FloatKind.f64.format.order a b = ordF a b := rfl
  cases h1 : (ordF a b == some .lt)
  · cases h2 : (ordF a b == some .gt)
    · repeat' (first | refine EvC.seq ?_ | refine EvC.scope ?_ | refine EvC.block ?_ | (refine EvC.skip ?_; try simp only [z02]) | (refine EvC.exit ?_) | (refine EvC.ret ?_; try simp only [z01, z00]) | (refine EvC.reg ?_; simp (config := { maxSteps := 2000000 }) (disch := first | omega | rfl) only [sB, Nat.reduceEqDiff, reduceCtorEq, z7j, z7c, hl, h1, h2]) | (refine EvC.condT ?_ ?_; simp (config := { maxSteps := 2000000 }) (disch := first | omega | rfl) only [sB, Nat.reduceEqDiff, reduceCtorEq]; refine z03 ?_) | (refine EvC.condF ?_ ?_; simp (config := { maxSteps := 2000000 }) (disch := first | omega | rfl) only [sB, Nat.reduceEqDiff, reduceCtorEq]; refine z03 ?_))
      exact z04 rfl (by simp only [sB, Nat.reduceEqDiff, reduceCtorEq] <;> rfl) ⟨by simp [fltO, h1, h2], rfl⟩
    · repeat' (first | refine EvC.seq ?_ | refine EvC.scope ?_ | refine EvC.block ?_ | (refine EvC.skip ?_; try simp only [z02]) | (refine EvC.exit ?_) | (refine EvC.ret ?_; try simp only [z01, z00]) | (refine EvC.reg ?_; simp (config := { maxSteps := 2000000 }) (disch := first | omega | rfl) only [sB, Nat.reduceEqDiff, reduceCtorEq, z7j, z7c, hl, h1, h2]) | (refine EvC.condT ?_ ?_; simp (config := { maxSteps := 2000000 }) (disch := first | omega | rfl) only [sB, Nat.reduceEqDiff, reduceCtorEq]; refine z03 ?_) | (refine EvC.condF ?_ ?_; simp (config := { maxSteps := 2000000 }) (disch := first | omega | rfl) only [sB, Nat.reduceEqDiff, reduceCtorEq]; refine z03 ?_))
      exact z04 rfl (by simp only [sB, Nat.reduceEqDiff, reduceCtorEq] <;> rfl) ⟨by simp [fltO, h1, h2], rfl⟩
  · repeat' (first | refine EvC.seq ?_ | refine EvC.scope ?_ | refine EvC.block ?_ | (refine EvC.skip ?_; try simp only [z02]) | (refine EvC.exit ?_) | (refine EvC.ret ?_; try simp only [z01, z00]) | (refine EvC.reg ?_; simp (config := { maxSteps := 2000000 }) (disch := first | omega | rfl) only [sB, Nat.reduceEqDiff, reduceCtorEq, z7j, hl, h1]) | (refine EvC.condT ?_ ?_; simp (config := { maxSteps := 2000000 }) (disch := first | omega | rfl) only [sB, Nat.reduceEqDiff, reduceCtorEq]; refine z03 ?_) | (refine EvC.condF ?_ ?_; simp (config := { maxSteps := 2000000 }) (disch := first | omega | rfl) only [sB, Nat.reduceEqDiff, reduceCtorEq]; refine z03 ?_))
    exact z04 rfl (by simp only [sB, Nat.reduceEqDiff, reduceCtorEq] <;> rfl) ⟨by simp [fltO, h1], rfl⟩
end Go.Proofs.YtlllbkjiadcloaaDoor.hb
end

-- Z8
section
namespace Go.Proofs.YtlllbkjiadcloaaDoor.hb
open Go Go.RowKit Go.Hb
def expF (g : Nat) : Nat := g / 4503599627370496 - 1
def manF (g : Nat) : Nat := if g < 4503599627370496 then g else 4503599627370496 + g % 4503599627370496
def valF (g : Nat) : Nat := manF g * 2 ^ expF g
theorem zco {g h : Nat} (l : g < h) : valF g < valF h := by
  unfold valF
  by_cases e : expF g = expF h
  · rw [e]
    refine Nat.mul_lt_mul_of_pos_right ?_ (Nat.two_pow_pos _)
    unfold manF expF at *
    split <;> split <;> omega
  · have e' : expF g < expF h := by unfold expF at *; omega
    have h1 : manF g < 9007199254740992 := by unfold manF; split <;> omega
    have h2 : 4503599627370496 ≤ manF h := by unfold manF expF at *; split <;> omega
    have h3 : 2 ^ (expF g + 1) ≤ 2 ^ expF h := Nat.pow_le_pow_right (by omega) e'
    have h4 : manF g * 2 ^ expF g < 9007199254740992 * 2 ^ expF g := Nat.mul_lt_mul_of_pos_right h1 (Nat.two_pow_pos _)
    have h5 : 4503599627370496 * 2 ^ expF h ≤ manF h * 2 ^ expF h := Nat.mul_le_mul_right _ h2
    have h6 : 4503599627370496 * 2 ^ (expF g + 1) ≤ 4503599627370496 * 2 ^ expF h := Nat.mul_le_mul_left _ h3
    rw [Nat.pow_succ] at h6
    omega
theorem z7k {g h : Nat} : valF g < valF h ↔ g < h := by
  constructor
  · intro e
    rcases Nat.lt_trichotomy g h with l | l | l
    · exact l
    · subst l; omega
    · have := zco l; omega
  · exact zco
theorem zeb {w : Nat} (h : w % 9223372036854775808 < 9218868437227405312) :
    Ieee.double.read w = .number (w / 9223372036854775808 % 2 == 1) (manF (w % 9223372036854775808)) ((expF (w % 9223372036854775808) : Int) - 1074) := by
  rw [z9f]
  generalize w % 9223372036854775808 = g at h
  split
  · rename_i h1
    have e1 : manF g = g := by unfold manF; rw [if_pos h1]
    have e2 : expF g = 0 := by unfold expF; omega
    rw [e1, e2]; rfl
  · rename_i h1
    have e1 : manF g = 4503599627370496 + g % 4503599627370496 := by unfold manF; rw [if_neg h1]
    rw [e1]
    congr 1
    first | done | (unfold expF; omega)
theorem zcp {x y : Int} {c : Nat} (hc : 0 < c) : compare (x * c) (y * c) = compare x y := by
  have hc' : (0 : Int) < c := by omega
  rcases Int.lt_trichotomy x y with h | h | h
  · rw [Int.compare_eq_lt.2 h, Int.compare_eq_lt.2 (Int.mul_lt_mul_of_pos_right h hc')]
  · subst h; rw [Int.compare_eq_eq.2 rfl, Int.compare_eq_eq.2 rfl]
  · rw [Int.compare_eq_gt.2 h, Int.compare_eq_gt.2 (Int.mul_lt_mul_of_pos_right h hc')]
def svF (s : Bool) (x : Nat) : Int := if s then -(x : Int) else x
theorem zb4 (s : Bool) (m k : Nat) : Ieee.signed s m k = svF s (m * 2 ^ k) := by
  unfold Ieee.signed svF
  rw [Nat.shiftLeft_eq]
theorem zhs (s : Bool) (x c : Nat) : svF s (x * c) = svF s x * c := by
  unfold svF
  cases s
  · simp
  · simp [Int.neg_mul]
theorem zht (s t : Bool) (m n i j : Nat) : Ieee.Datum.order (.number s m ((i : Int) - 1074)) (.number t n ((j : Int) - 1074)) = some (compare (svF s (m * 2 ^ i)) (svF t (n * 2 ^ j))) := by
  show some (compare (Ieee.signed s m (((i : Int) - 1074) - min ((i : Int) - 1074) ((j : Int) - 1074)).toNat) (Ieee.signed t n (((j : Int) - 1074) - min ((i : Int) - 1074) ((j : Int) - 1074)).toNat)) = _
  have e1 : (((i : Int) - 1074) - min ((i : Int) - 1074) ((j : Int) - 1074)).toNat = i - min i j := by omega
  have e2 : (((j : Int) - 1074) - min ((i : Int) - 1074) ((j : Int) - 1074)).toNat = j - min i j := by omega
  rw [e1, e2, zb4, zb4]
  have f1 : m * 2 ^ i = m * 2 ^ (i - min i j) * 2 ^ min i j := by rw [Nat.mul_assoc, ← Nat.pow_add]; congr 2; omega
  have f2 : n * 2 ^ j = n * 2 ^ (j - min i j) * 2 ^ min i j := by rw [Nat.mul_assoc, ← Nat.pow_add]; congr 2; omega
  rw [f1, f2, zhs s (m * 2 ^ (i - min i j)), zhs t (n * 2 ^ (j - min i j)), zcp (Nat.two_pow_pos _)]
theorem zjx {v w : Nat} (hv : v % 9223372036854775808 < 9218868437227405312) (hw : w % 9223372036854775808 < 9218868437227405312) :
    ordF v w = some (compare (svF (v / 9223372036854775808 % 2 == 1) (valF (v % 9223372036854775808))) (svF (w / 9223372036854775808 % 2 == 1) (valF (w % 9223372036854775808)))) := by
  show Ieee.Datum.order (Ieee.double.read v) (Ieee.double.read w) = _
  rw [zeb hv, zeb hw, zht]; rfl
def sgnF (v : Nat) : Int := svF (v / 9223372036854775808 % 2 == 1) (valF (v % 9223372036854775808))
theorem z9j {v : Nat} (h : v < 9223372036854775808) : sgnF v = valF v := by
  have e1 : (v / 9223372036854775808 % 2 == 1) = false := beq_eq_false_iff_ne.2 (by omega)
  have e2 : v % 9223372036854775808 = v := by omega
  unfold sgnF
  rw [e1, e2, svF, if_neg Bool.false_ne_true]
theorem z9k {v : Nat} (h : 9223372036854775808 ≤ v) (h' : v < 18446744073709551616) : sgnF v = -(valF (v - 9223372036854775808) : Int) := by
  have e1 : (v / 9223372036854775808 % 2 == 1) = true := beq_iff_eq.2 (by omega)
  have e2 : v % 9223372036854775808 = v - 9223372036854775808 := by omega
  unfold sgnF
  rw [e1, e2, svF, if_pos rfl]
theorem zhu {v w : Nat} (hv : v < 18446744073709551616) (hw : w < 18446744073709551616) (nv : v ≠ 9223372036854775808) (nw : w ≠ 9223372036854775808) : sgnF v < sgnF w ↔ keyF v < keyF w := by
  have z : ∀ g, 0 < g → 0 < valF g := fun g h => by have := zco h; omega
  unfold keyF
  by_cases h1 : v < 9223372036854775808 <;> by_cases h2 : w < 9223372036854775808
  · rw [z9j h1, z9j h2, if_neg (by omega), if_neg (by omega)]
    have := @z7k v w
    omega
  · rw [z9j h1, z9k (by omega) hw, if_neg (by omega), if_pos (by omega)]
    have := z (w - 9223372036854775808) (by omega)
    omega
  · rw [z9k (by omega) hv, z9j h2, if_pos (by omega), if_neg (by omega)]
    have := z (v - 9223372036854775808) (by omega)
    omega
  · rw [z9k (by omega) hv, z9k (by omega) hw, if_pos (by omega), if_pos (by omega)]
    have := @z7k (w - 9223372036854775808) (v - 9223372036854775808)
    omega
theorem zmv {v w : Nat} (hv : v < 18446744073709551616) (hw : w < 18446744073709551616) (nv : v ≠ 9223372036854775808) (nw : w ≠ 9223372036854775808)
    (fv : v % 9223372036854775808 < 9218868437227405312) (fw : w % 9223372036854775808 < 9218868437227405312) : fltO v w = fltZ v w := by
  have e : ordF v w = some (compare (sgnF v) (sgnF w)) := zjx fv fw
  have a := zhu hv hw nv nw
  have b := zhu hw hv nw nv
  unfold fltO fltZ
  rw [e]
  rcases Int.lt_trichotomy (sgnF v) (sgnF w) with h | h | h
  · rw [Int.compare_eq_lt.2 h, zck (a.1 h)]; rfl
  · rw [Int.compare_eq_eq.2 h, zcm (by omega)]; rfl
  · rw [Int.compare_eq_gt.2 h, zcl (b.1 h)]; rfl
end Go.Proofs.YtlllbkjiadcloaaDoor.hb
end

-- Z9
section
namespace Go.Proofs.YtlllbkjiadcloaaDoor.hb
open Go Go.RowKit Go.Hb
mutual
def ordT : Tm → Tm → Int
  | .mk k s u b v l, .mk k' s' u' b' v' l' =>
    if k ≠ k' then cmpZ (rankZ k) (rankZ k')
    else if k = 1 then cmpZ v v'
    else if k = 3 then numZ u u'
    else if k = 4 then fltZ b b'
    else if orZ (cmpZ l.length l'.length) (cmpS s s') = 0 then ordL l l' else orZ (cmpZ l.length l'.length) (cmpS s s')
def ordL : List Tm → List Tm → Int
  | [], _ => 0
  | _ :: _, [] => 0
  | t :: l, t' :: l' => if ordT t t' = 0 then ordL l l' else ordT t t'
end
def headZ (t t' : Tm) : Int := orZ (cmpZ t.args.length t'.args.length) (cmpS t.name t'.name)
theorem z5o (t t' : Tm) : ordT t t' = if t.kind ≠ t'.kind then cmpZ (rankZ t.kind) (rankZ t'.kind)
    else if t.kind = 1 then cmpZ t.var t'.var
    else if t.kind = 3 then numZ t.num t'.num
    else if t.kind = 4 then fltZ t.bits t'.bits
    else if headZ t t' = 0 then ordL t.args t'.args else headZ t t' := by
  obtain ⟨k, s, u, b, v, l⟩ := t
  obtain ⟨k', s', u', b', v', l'⟩ := t'
  rw [ordT]; rfl
theorem zhv {l l' : List Tm} {i : Nat} {t t' : Tm} (h : l[i]? = some t) (h' : l'[i]? = some t') :
    ordL (l.drop i) (l'.drop i) = if ordT t t' = 0 then ordL (l.drop (i + 1)) (l'.drop (i + 1)) else ordT t t' := by
  have hlt := (List.getElem?_eq_some_iff.1 h).1
  have he : l[i] = t := (List.getElem?_eq_some_iff.1 h).2
  have hlt' := (List.getElem?_eq_some_iff.1 h').1
  have he' : l'[i] = t' := (List.getElem?_eq_some_iff.1 h').2
  rw [List.drop_eq_getElem_cons hlt, List.drop_eq_getElem_cons hlt', ordL, he, he']
theorem zec {t t' : Tm} (h : headZ t t' = 0) : t.args.length = t'.args.length := by
  unfold headZ orZ at h
  have := z1y (t.args.length : Int) t'.args.length
  by_cases e : cmpZ (t.args.length : Int) t'.args.length = 0
  · unfold cmpZ at e
    split at e
    · omega
    · split at e <;> omega
  · rw [if_neg e] at h; exact absurd h e
end Go.Proofs.YtlllbkjiadcloaaDoor.hb
end

-- Z11
section
namespace Go.Proofs.YtlllbkjiadcloaaDoor.hb
open Go Go.RowKit Go.Hb
def TT (x y z : Int) : Prop := (x ≤ 0 → y ≤ 0 → z ≤ 0) ∧ (0 ≤ x → 0 ≤ y → 0 ≤ z) ∧ (x < 0 → y ≤ 0 → z < 0) ∧ (x ≤ 0 → y < 0 → z < 0) ∧ (0 < x → 0 ≤ y → 0 < z) ∧ (0 ≤ x → 0 < y → 0 < z)
theorem TT.or {x1 y1 z1 x2 y2 z2 : Int} (h1 : TT x1 y1 z1) (h2 : x1 = 0 → y1 = 0 → TT x2 y2 z2) : TT (orZ x1 x2) (orZ y1 y2) (orZ z1 z2) := by
  unfold orZ TT at *
  by_cases a : x1 = 0 <;> by_cases b : y1 = 0
  · have c : z1 = 0 := by omega
    simp only [a, b, c, if_true]
    exact h2 a b
  · have c : z1 ≠ 0 := by omega
    simp only [a, b, c, if_true, if_false]
    omega
  · have c : z1 ≠ 0 := by omega
    simp only [a, b, c, if_true, if_false]
    omega
  · by_cases c : z1 = 0
    · simp only [a, b, c, if_true, if_false]; omega
    · simp only [a, b, c, if_false]; omega
theorem TT.neg {x y z : Int} (h : TT x y z) : TT (-x) (-y) (-z) := by unfold TT at *; omega
theorem TT.cmp (a b c : Int) : TT (cmpZ a b) (cmpZ b c) (cmpZ a c) := by
  unfold TT cmpZ
  by_cases h1 : a < b <;> by_cases h2 : b < a <;> by_cases h3 : b < c <;> by_cases h4 : c < b <;> by_cases h5 : a < c <;> by_cases h6 : c < a <;> simp only [h1, h2, h3, h4, h5, h6, if_true, if_false] <;> (refine ⟨?_, ?_, ?_, ?_, ?_, ?_⟩ <;> intros <;> omega)
theorem TT.zero : TT 0 0 0 := by unfold TT; omega
theorem z32 (a b : Int) : cmpZ b a = -(cmpZ a b) := by
  unfold cmpZ
  by_cases h1 : a < b <;> by_cases h2 : b < a <;> simp only [h1, h2, if_true, if_false] <;> omega
theorem z1e {a b : Int} : cmpZ a b = 0 ↔ a = b := by
  unfold cmpZ
  constructor
  · intro h; split at h
    · omega
    · split at h <;> omega
  · rintro rfl; simp
def cmpB (a b : List UInt8) : Int := if Op.bytesLess a b then -1 else if Op.bytesLess b a then 1 else 0
theorem z47 : cmpB [] [] = 0 := by simp [cmpB, Op.bytesLess]
theorem z3x {y : UInt8} {b : List UInt8} : cmpB [] (y :: b) = -1 := by simp [cmpB, Op.bytesLess]
theorem z3y {y : UInt8} {b : List UInt8} : cmpB (y :: b) [] = 1 := by simp [cmpB, Op.bytesLess]
theorem z33 {x y : UInt8} {a b : List UInt8} : cmpB (x :: a) (y :: b) = orZ (cmpZ x.toNat y.toNat) (cmpB a b) := by
  unfold cmpB
  simp only [Op.bytesLess]
  rcases Nat.lt_trichotomy x.toNat y.toNat with h | h | h
  · have h1 : x < y := UInt8.lt_iff_toNat_lt.2 h
    have hc : cmpZ (x.toNat : Int) y.toNat = -1 := by unfold cmpZ; rw [if_pos (by omega)]
    rw [hc]
    simp [h1, orZ]
  · obtain rfl : x = y := UInt8.toNat_inj.1 h
    have hc : cmpZ (x.toNat : Int) x.toNat = 0 := z1e.2 rfl
    rw [hc]
    simp [orZ]
  · have h1 : y < x := UInt8.lt_iff_toNat_lt.2 h
    have h2 : ¬ x < y := fun q => by have := UInt8.lt_iff_toNat_lt.1 q; omega
    have h3 : x ≠ y := fun q => by rw [q] at h; omega
    have hc : cmpZ (x.toNat : Int) y.toNat = 1 := by unfold cmpZ; rw [if_neg (by omega), if_pos (by omega)]
    rw [hc]
    simp [h1, h2, h3, orZ]
theorem TT.bytes : ∀ (a b c : List UInt8), TT (cmpB a b) (cmpB b c) (cmpB a c)
  | [], [], [] => by rw [z47]; exact TT.zero
  | [], [], _ :: _ => by rw [z47, z3x]; unfold TT; omega
  | [], _ :: _, [] => by rw [z47, z3x, z3y]; unfold TT; omega
  | _ :: _, [], [] => by rw [z47, z3y]; unfold TT; omega
  | _ :: _, [], _ :: _ => by rw [z3x, z3y]; unfold TT; omega
  | [], _ :: _, _ :: _ => by rw [z3x, z3x]; unfold TT; omega
  | _ :: _, _ :: _, [] => by rw [z3y, z3y]; unfold TT; omega
  | x :: a, y :: b, z :: c => by
    rw [z33, z33, z33]
    exact TT.or (TT.cmp _ _ _) fun _ _ => TT.bytes a b c
theorem zb5 : ∀ (a b : List UInt8), cmpB b a = -(cmpB a b)
  | [], [] => by rw [z47]; rfl
  | [], _ :: _ => by rw [z3x, z3y]; rfl
  | _ :: _, [] => by rw [z3x, z3y]
  | x :: a, y :: b => by rw [z33, z33, z32 x.toNat y.toNat, zb5 a b, zcf]
theorem z7l : ∀ {a b : List UInt8}, cmpB a b = 0 ↔ a = b
  | [], [] => by rw [z47]; simp
  | [], _ :: _ => by rw [z3x]; simp
  | _ :: _, [] => by rw [z3y]; simp
  | x :: a, y :: b => by
    rw [z33, z1r, z1e, z7l (a := a) (b := b), List.cons.injEq]
    constructor
    · rintro ⟨h1, h2⟩; exact ⟨UInt8.toNat_inj.1 (by omega), h2⟩
    · rintro ⟨h1, h2⟩; exact ⟨by rw [h1], h2⟩
theorem zb6 (a b : ByteArray) : cmpS b a = -(cmpS a b) := zb5 a.toList b.toList
theorem z5a {a b : ByteArray} : cmpS a b = 0 ↔ a = b :=
  ⟨fun h => z45 (z7l.1 h), fun h => by subst h; exact z7l.2 rfl⟩
theorem zhw (a b : ByteArray) : numZ b a = -(numZ a b) := by
  have h : orZ (cmpZ (b.size : Int) a.size) (cmpS b a) = -(orZ (cmpZ (a.size : Int) b.size) (cmpS a b)) := by rw [z32 (a.size : Int), zb6 a b, zcf]
  unfold numZ
  rw [h]
  cases negS (bl a) <;> cases negS (bl b) <;> simp
theorem zb7 {a b : ByteArray} : numZ a b = 0 ↔ a = b := by
  constructor
  · intro h
    have key : orZ (cmpZ (a.size : Int) b.size) (cmpS a b) = 0 := by
      revert h
      unfold numZ
      cases negS (bl a) <;> cases negS (bl b) <;> simp
    exact z5a.1 (z1r.1 key).2
  · rintro rfl
    unfold numZ
    have h : orZ (cmpZ (a.size : Int) a.size) (cmpS a a) = 0 := z1r.2 ⟨z1e.2 rfl, z5a.2 rfl⟩
    rw [h]
    cases negS (bl a) <;> simp
theorem zhx (a b : Int) : fltZ b a = -(fltZ a b) := z32 _ _
theorem zhy {a b : Int} (ha : u64 a) (hb : u64 b) : fltZ a b = 0 ↔ a = b := by
  unfold fltZ
  rw [z1e]
  unfold keyF u64 at *
  constructor
  · intro h; split at h <;> split at h <;> omega
  · rintro rfl; rfl
theorem zb8 {k k' : Int} (h1 : 1 ≤ k) (h2 : k ≤ 5) (h3 : 1 ≤ k') (h4 : k' ≤ 5) (h : rankZ k = rankZ k') : k = k' := by
  unfold rankZ at h
  repeat' split at h
  all_goals omega
def restZ (t t' : Tm) : Int := if t.kind = 1 then cmpZ t.var t'.var else if t.kind = 3 then numZ t.num t'.num else if t.kind = 4 then fltZ t.bits t'.bits else orZ (headZ t t') (ordL t.args t'.args)
theorem zmw {t t' : Tm} (h1 : 1 ≤ t.kind ∧ t.kind ≤ 5) (h2 : 1 ≤ t'.kind ∧ t'.kind ≤ 5) : ordT t t' = orZ (cmpZ (rankZ t.kind) (rankZ t'.kind)) (restZ t t') := by
  rw [z5o]
  by_cases hk : t.kind = t'.kind
  · rw [if_neg (fun h => h hk)]
    have : cmpZ (rankZ t.kind) (rankZ t'.kind) = 0 := by rw [hk]; exact z1e.2 rfl
    rw [this, orZ, if_pos rfl]
    unfold restZ orZ; rfl
  · rw [if_pos hk]
    have : cmpZ (rankZ t.kind) (rankZ t'.kind) ≠ 0 := fun h => hk (zb8 h1.1 h1.2 h2.1 h2.2 (z1e.1 h))
    rw [orZ, if_neg this]
theorem zhz (t t' : Tm) (l l' : List Tm) : ordL (t :: l) (t' :: l') = orZ (ordT t t') (ordL l l') := by rw [ordL]; rfl
mutual
theorem zi0 : ∀ (t t' : Tm), ordT t' t = -(ordT t t')
  | .mk k s u b v l, .mk k' s' u' b' v' l' => by
    rw [ordT, ordT]
    by_cases hk : k = k'
    · subst hk
      simp only [ne_eq, not_true_eq_false, if_false]
      split
      · exact z32 _ _
      split
      · exact zhw _ _
      split
      · exact zhx _ _
      have h : orZ (cmpZ (l'.length : Int) l.length) (cmpS s' s) = -(orZ (cmpZ (l.length : Int) l'.length) (cmpS s s')) := by rw [z32 (l.length : Int), zb6 s s', zcf]
      rw [h, zb9 l l']
      by_cases h0 : orZ (cmpZ (l.length : Int) l'.length) (cmpS s s') = 0
      · rw [if_pos (by omega), if_pos h0]
      · rw [if_neg (by omega), if_neg h0]
    · rw [if_pos (fun h => hk h.symm), if_pos hk]
      exact z32 _ _
theorem zb9 : ∀ (l l' : List Tm), ordL l' l = -(ordL l l')
  | [], [] => by simp [ordL]
  | [], _ :: _ => by simp [ordL]
  | _ :: _, [] => by simp [ordL]
  | t :: l, t' :: l' => by
    rw [ordL, ordL, zi0 t t', zb9 l l']
    by_cases h0 : ordT t t' = 0
    · rw [if_pos (by omega), if_pos h0]
    · rw [if_neg (by omega), if_neg h0]
end
theorem zba : ∀ {l l' : List Tm}, l.length = l'.length → (∀ t ∈ l, ∀ t' ∈ l', (ordT t t' = 0 → t = t')) → ordL l l' = 0 → l = l'
  | [], [], _, _, _ => rfl
  | [], _ :: _, h, _, _ => by simp at h
  | _ :: _, [], h, _, _ => by simp at h
  | t :: l, t' :: l', h, ih, h0 => by
    rw [zhz, z1r] at h0
    rw [ih t (by simp) t' (by simp) h0.1, zba (by simpa using h) (fun a ha b hb => ih a (List.mem_cons_of_mem _ ha) b (List.mem_cons_of_mem _ hb)) h0.2]
mutual
theorem zbb : ∀ (t : Tm), ordT t t = 0
  | .mk k s u b v l => by
    rw [ordT, if_neg (fun h => h rfl)]
    split
    · exact z1e.2 rfl
    split
    · exact zb7.2 rfl
    split
    · exact z1e.2 rfl
    rw [if_pos (z1r.2 ⟨z1e.2 rfl, z5a.2 rfl⟩)]
    exact zbc l
theorem zbc : ∀ (l : List Tm), ordL l l = 0
  | [] => by rw [ordL]
  | t :: l => by rw [ordL, if_pos (zbb t)]; exact zbc l
end
inductive U64s : Tm → Prop
  | mk {t : Tm} : u64 t.bits → (∀ u ∈ t.args, U64s u) → U64s t
theorem U64s.bits {t : Tm} (h : U64s t) : u64 t.bits := by cases h; assumption
theorem U64s.args {t : Tm} (h : U64s t) : ∀ u ∈ t.args, U64s u := by cases h; assumption
theorem RepT.u64s {H : Heap} : ∀ {t : Tm} {cs : List Value}, RepT H t cs → U64s t := by
  intro t cs r
  induction r with
  | mk k s u b v l a c cells h1 h2 h3 h4 h5 h6 h7 h8 h9 h10 h11 ih =>
    refine .mk h4 fun w hw => ?_
    obtain ⟨i, hi, e⟩ := List.getElem_of_mem (show w ∈ l from hw)
    exact ih i w (by rw [List.getElem?_eq_getElem hi, e])
theorem zbd : ∀ (m : Nat) {t t' : Tm}, SizeOf.sizeOf t < m → Fine t → Fine t' → U64s t → U64s t' → ordT t t' = 0 → t = t'
  | 0, _, _, h, _, _, _, _, _ => by omega
  | m + 1, t, t', hm, f, f', b, b', h => by
    have k1 := z1s f.node; have k2 := z1s f'.node
    rw [zmw ⟨k1.1, k1.2.1⟩ ⟨k2.1, k2.2.1⟩, z1r] at h
    have q : t.kind = t'.kind := zb8 k1.1 k1.2.1 k2.1 k2.2.1 (z1e.1 h.1)
    have l1 := z24 k1.2.2.1; have l2 := z24 k2.2.2.1
    have h := h.2
    unfold restZ at h
    split at h
    · rename_i hk
      have hk' : t'.kind = 1 := by omega
      exact z8e q (by rw [l1.1 (by omega) (by omega), l2.1 (by omega) (by omega)]) (by rw [l1.2.1 (by omega), l2.2.1 (by omega)]) (by rw [l1.2.2.1 (by omega), l2.2.2.1 (by omega)]) (z1e.1 h) (by rw [l1.2.2.2.2 (by omega), l2.2.2.2.2 (by omega)])
    split at h
    · rename_i hk
      have hk' : t'.kind = 3 := by omega
      exact z8e q (by rw [l1.1 (by omega) (by omega), l2.1 (by omega) (by omega)]) (zb7.1 h) (by rw [l1.2.2.1 (by omega), l2.2.2.1 (by omega)]) (by rw [l1.2.2.2.1 (by omega), l2.2.2.2.1 (by omega)]) (by rw [l1.2.2.2.2 (by omega), l2.2.2.2.2 (by omega)])
    split at h
    · rename_i hk
      have hk' : t'.kind = 4 := by omega
      exact z8e q (by rw [l1.1 (by omega) (by omega), l2.1 (by omega) (by omega)]) (by rw [l1.2.1 (by omega), l2.2.1 (by omega)]) ((zhy b.bits b'.bits).1 h) (by rw [l1.2.2.2.1 (by omega), l2.2.2.2.1 (by omega)]) (by rw [l1.2.2.2.2 (by omega), l2.2.2.2.2 (by omega)])
    · rename_i n1 n3 n4
      rw [z1r] at h
      have hn : t.name = t'.name := z5a.1 (z1r.1 h.1).2
      refine z8e q hn (by rw [l1.2.1 (by omega), l2.2.1 (by omega)]) (by rw [l1.2.2.1 (by omega), l2.2.2.1 (by omega)]) (by rw [l1.2.2.2.1 (by omega), l2.2.2.2.1 (by omega)]) ?_
      exact zba (zec h.1) (fun a ha c hc h0 => zbd m (by have := z0d ha; omega) (f.args a ha) (f'.args c hc) (b.args a ha) (b'.args c hc) h0) h.2
theorem zfo (a b : ByteArray) : -1 ≤ numZ a b ∧ numZ a b ≤ 1 := by
  have := z7i (z1y a.size b.size) (z5n a b)
  unfold numZ
  split
  · omega
  split
  · omega
  split <;> omega
mutual
theorem zfp : ∀ (t t' : Tm), -1 ≤ ordT t t' ∧ ordT t t' ≤ 1
  | .mk k s u b v l, .mk k' s' u' b' v' l' => by
    rw [ordT]
    split
    · exact z1y _ _
    split
    · exact z1y _ _
    split
    · exact zfo _ _
    split
    · exact z1y _ _
    split
    · exact z8h l l'
    · exact z7i (z1y _ _) (z5n _ _)
theorem z8h : ∀ (l l' : List Tm), -1 ≤ ordL l l' ∧ ordL l l' ≤ 1
  | [], _ => by rw [ordL]; omega
  | _ :: _, [] => by rw [ordL]; omega
  | t :: l, t' :: l' => by
    rw [ordL]
    split
    · exact z8h l l'
    · exact zfp t t'
end
end Go.Proofs.YtlllbkjiadcloaaDoor.hb
end

-- Z10
section
namespace Go.Proofs.YtlllbkjiadcloaaDoor.hb
open Go Go.RowKit Go.Hb
variable {ok : Ok}
set_option maxRecDepth 10000
attribute [local irreducible] LX LG EL STG SOP SGO SGD SAL SRD SEF SEG SLK SCK ES
theorem zi1 {n : Int} (hn : u64 n) (h : fltS n = true) : n.toNat % 9223372036854775808 < 9218868437227405312 ∧ n.toNat ≠ 9223372036854775808 ∧ (FloatKind.f64.format.order n.toNat n.toNat != some .eq) = false ∧ n.toNat < 18446744073709551616 ∧ ((n.toNat : Nat) : Int) = n := by
  have hm : n.toNat < 18446744073709551616 := by unfold u64 at hn; omega
  have hc : ((n.toNat : Nat) : Int) = n := by unfold u64 at hn; omega
  unfold fltS at h
  simp only [Bool.not_eq_true', Bool.or_eq_false_iff, beq_eq_false_iff_ne] at h
  obtain ⟨⟨h1, h2⟩, h3⟩ := h
  have h1' := h1
  unfold fnB at h1
  rw [zo1] at h1
  unfold fiB at h2
  rw [zmi _ hm, zo3 _ (Nat.mod_lt _ (by omega))] at h2
  have a := of_decide_eq_false h1
  have b := of_decide_eq_false h2
  exact ⟨by omega, by omega, h1', hm, hc⟩
set_option maxHeartbeats 4000000 in
theorem zjy {m : Nat} : ∀ {t t' : Tm} {cs cs' : List Value} {H : Heap}, SizeOf.sizeOf t < m → RepT H t cs → RepT H t' cs' → Fine t → Fine t' → H.wf →
    EvF Tryd.prog okT 53 [.agg ⟨cs⟩, .agg ⟨cs'⟩] H fun v H' => v = .int .i64 (ordT t t') ∧ HX H H' := by
  induction m with
  | zero => intro t t' cs cs' H h; omega
  | succ m ih =>
  intro t t' cs cs' H hsz r r' hn hn' hw
  obtain ⟨a, c, cells, rfl, b1, b2, b3, b4, b5, rl⟩ := r.six
  obtain ⟨a', c', cells', rfl, b1', b2', b3', b4', b5', rl'⟩ := r'.six
  refine EvF.enter rfl Tryd.func53 (by decide) rfl ?_
  (repeat refine EvC.seq ?_); refine EvC.reg ?_; simp (config := { maxSteps := 2000000 }) (disch := first | omega | rfl) only [sB, initTm, dBox, Nat.reduceEqDiff, Value.cells, one, reduceCtorEq]
  obtain ⟨H2, e2, hx2, gp, gq, hnx, hw2⟩ := new2 hw (.row (six t a c) 26) (.row (six t' a' c') 26)
  simp only [e2]
  have q1 := row6 gp
  have q2 := row6 gq
  have rl2 := rl.mono hx2 hw
  have rl2' := rl'.mono hx2 hw
  clear e2
  by_cases hk : t.kind = t'.kind
  · by_cases k1 : t.kind = 1
    · repeat' (first | refine EvC.seq ?_ | refine EvC.scope ?_ | refine EvC.block ?_ | (refine EvC.skip ?_; try simp only [z02]) | (refine EvC.exit ?_) | (refine EvC.ret ?_; try simp only [z01, z00]) | (refine EvC.reg ?_; simp (config := { maxSteps := 2000000 }) (disch := first | omega | rfl) only [sB, Nat.reduceEqDiff, reduceCtorEq, z0y, ld3, cl83, z51, z17 hk, q1, q2, z1p k1]) | (refine EvC.condT ?_ ?_; simp (config := { maxSteps := 2000000 }) (disch := first | omega | rfl) only [sB, Nat.reduceEqDiff, reduceCtorEq]; refine z03 ?_) | (refine EvC.condF ?_ ?_; simp (config := { maxSteps := 2000000 }) (disch := first | omega | rfl) only [sB, Nat.reduceEqDiff, reduceCtorEq]; refine z03 ?_))
      refine z5m.mono ?_
      rintro v H1 ⟨rfl, rfl⟩
      repeat' (first | refine EvC.seq ?_ | refine EvC.scope ?_ | refine EvC.block ?_ | (refine EvC.skip ?_) | (refine EvC.exit ?_) | (refine EvC.ret ?_; try simp only [z01, z00]))
      exact z04 rfl (by simp only [sB, Nat.reduceEqDiff, reduceCtorEq] <;> rfl) ⟨by rw [z5o, if_neg (fun h => h hk), if_pos k1], hx2⟩
    by_cases k3 : t.kind = 3
    · repeat' (first | refine EvC.seq ?_ | refine EvC.scope ?_ | refine EvC.block ?_ | (refine EvC.skip ?_; try simp only [z02]) | (refine EvC.exit ?_) | (refine EvC.ret ?_; try simp only [z01, z00]) | (refine EvC.reg ?_; simp (config := { maxSteps := 2000000 }) (disch := first | omega | rfl) only [sB, Nat.reduceEqDiff, reduceCtorEq, z0y, ld3, z4d, ld9, cl87, z17 hk, q1, q2, z0x k1, z1p k3]) | (refine EvC.condT ?_ ?_; simp (config := { maxSteps := 2000000 }) (disch := first | omega | rfl) only [sB, Nat.reduceEqDiff, reduceCtorEq]; refine z03 ?_) | (refine EvC.condF ?_ ?_; simp (config := { maxSteps := 2000000 }) (disch := first | omega | rfl) only [sB, Nat.reduceEqDiff, reduceCtorEq]; refine z03 ?_))
      refine (zfn b3 b3' hx2.wf).mono ?_
      rintro v H1 ⟨rfl, hx3⟩
      repeat' (first | refine EvC.seq ?_ | refine EvC.scope ?_ | refine EvC.block ?_ | (refine EvC.skip ?_) | (refine EvC.exit ?_) | (refine EvC.ret ?_; try simp only [z01, z00]))
      exact z04 rfl (by simp only [sB, Nat.reduceEqDiff, reduceCtorEq] <;> rfl) ⟨by rw [z5o, if_neg (fun h => h hk), if_neg k1, if_pos k3], hx2.trans hx3⟩
    by_cases k4 : t.kind = 4
    · repeat' (first | refine EvC.seq ?_ | refine EvC.scope ?_ | refine EvC.block ?_ | (refine EvC.skip ?_; try simp only [z02]) | (refine EvC.exit ?_) | (refine EvC.ret ?_; try simp only [z01, z00]) | (refine EvC.reg ?_; simp (config := { maxSteps := 2000000 }) (disch := first | omega | rfl) only [sB, Nat.reduceEqDiff, reduceCtorEq, z0y, ld3, z17 hk, q1, q2, z0x k1, z0x k3, z1p k4]) | (refine EvC.drw (id := 9) [([(0, 0), (1, 0)], some 2), ([(3, 0), (4, 0)], some 5), ([], some 6), ([(7, 3)], none)] ?_ ?_; kernel_rfl; simp (config := { maxSteps := 2000000 }) (disch := first | omega | rfl) only [sD, sB, Nat.reduceEqDiff, Nat.reduceAdd, reduceCtorEq, z52, ld23, q1, isAlloc, isRead, reduceCtorEq]) | (refine EvC.condT ?_ ?_; simp (config := { maxSteps := 2000000 }) (disch := first | omega | rfl) only [sB, Nat.reduceEqDiff, reduceCtorEq]; refine z03 ?_) | (refine EvC.condF ?_ ?_; simp (config := { maxSteps := 2000000 }) (disch := first | omega | rfl) only [sB, Nat.reduceEqDiff, reduceCtorEq]; refine z03 ?_))
      rw [z2o (n := t.bits) (by simp only [sG, Nat.reduceEqDiff, reduceCtorEq])]
      repeat' (first | refine EvC.seq ?_ | refine EvC.scope ?_ | refine EvC.block ?_ | (refine EvC.skip ?_) | (refine EvC.exit ?_) | (refine EvC.ret ?_; try simp only [z01, z00]) | (refine zku ?_; simp (config := { maxSteps := 2000000 }) (disch := first | omega | rfl) only [sV, sD, sB, Nat.reduceEqDiff, reduceCtorEq, z52, ld23, q2, isAlloc, isRead, reduceCtorEq]))
      rw [z2o (n := t'.bits) (by simp only [sG, Nat.reduceEqDiff, reduceCtorEq])]
      repeat' (first | refine EvC.seq ?_ | refine EvC.scope ?_ | refine EvC.block ?_ | (refine EvC.skip ?_) | (refine EvC.exit ?_) | (refine EvC.ret ?_; try simp only [z01, z00]) | (refine zku ?_; simp (config := { maxSteps := 2000000 }) (disch := first | omega | rfl) only [sD, sB, Nat.reduceEqDiff, reduceCtorEq, cl88, reduceCtorEq]))
      have hf : fltS t.bits = true := (z1s (Fine.node hn)).2.2.2.2.2.2.1 k4
      have hf' : fltS t'.bits = true := (z1s (Fine.node hn')).2.2.2.2.2.2.1 (hk ▸ k4)
      have p1 := zi1 b4 hf
      have p2 := zi1 b4' hf'
      refine (zmu p1.2.2.1 p2.2.2.1).mono ?_
      rintro v H1 ⟨rfl, rfl⟩
      repeat' (first | refine EvC.seq ?_ | refine EvC.scope ?_ | refine EvC.block ?_ | (refine EvC.skip ?_) | (refine EvC.exit ?_) | (refine EvC.ret ?_; try simp only [z01, z00]) | (refine z0h ?_; simp (config := { maxSteps := 2000000 }) (disch := first | omega | rfl) only [sD, sB, Nat.reduceEqDiff, Nat.reduceAdd, reduceCtorEq, isAlloc, isRead, reduceCtorEq]))
      exact z04 rfl (by simp only [sB, Nat.reduceEqDiff, reduceCtorEq] <;> rfl) ⟨by rw [z5o, if_neg (fun h => h hk), if_neg k1, if_neg k3, if_pos k4, zmv p1.2.2.2.1 p2.2.2.2.1 p1.2.1 p2.2.1 p1.1 p2.1, p1.2.2.2.2, p2.2.2.2.2], hx2.bump _⟩
    repeat' (first | refine EvC.seq ?_ | refine EvC.scope ?_ | refine EvC.block ?_ | (refine EvC.skip ?_; try simp only [sA]) | (refine EvC.exit ?_) | (refine EvC.ret ?_; try simp only [z01, z00]) | (refine EvC.reg ?_; simp (config := { maxSteps := 2000000 }) (disch := first | omega | rfl) only [sB, Nat.reduceEqDiff, reduceCtorEq, z0y, ld3, z17 hk, q1, q2, z0x k1, z0x k3, z0x k4]) | (refine EvC.drw (id := 10) [([(0, 0), (1, 0), (2, 0), (3, 0), (4, 0), (5, 0)], some 6), ([(7, 0), (8, 0), (9, 0), (10, 0)], some 11), ([(12, 2)], some 13), ([(14, 3)], none)] ?_ ?_; kernel_rfl; simp (config := { maxSteps := 2000000 }) (disch := first | omega | rfl) only [sD, sB, Nat.reduceEqDiff, Nat.reduceAdd, reduceCtorEq, cl83, z19, ld24, ln24, q1, q2, isAlloc, isRead, reduceCtorEq]) | (refine EvC.condT ?_ ?_; simp (config := { maxSteps := 2000000 }) (disch := first | omega | rfl) only [sB, Nat.reduceEqDiff, reduceCtorEq]; refine z03 ?_) | (refine EvC.condF ?_ ?_; simp (config := { maxSteps := 2000000 }) (disch := first | omega | rfl) only [sB, Nat.reduceEqDiff, reduceCtorEq]; refine z03 ?_))
    refine z5m.mono ?_
    rintro v H1 ⟨rfl, rfl⟩
    repeat' (first | refine EvC.seq ?_ | refine EvC.scope ?_ | refine EvC.block ?_ | (refine EvC.skip ?_) | (refine EvC.exit ?_) | (refine EvC.ret ?_; try simp only [z01, z00]) | (refine z0h ?_; simp (config := { maxSteps := 2000000 }) (disch := first | omega | rfl) only [sV, sD, sB, Nat.reduceEqDiff, reduceCtorEq, ld9, z2h, cl91, q1, q2, isAlloc, isRead, reduceCtorEq]))
    refine zcn.mono ?_
    rintro v H1 ⟨rfl, rfl⟩
    repeat' (first | refine EvC.seq ?_ | refine EvC.scope ?_ | refine EvC.block ?_ | (refine EvC.skip ?_) | (refine EvC.exit ?_) | (refine EvC.ret ?_; try simp only [z01, z00]) | (refine z0h ?_; simp (config := { maxSteps := 2000000 }) (disch := first | omega | rfl) only [sD, sB, Nat.reduceEqDiff, Nat.reduceAdd, Value.cells, one, reduceCtorEq, Nat.reduceLeDiff, layC, zgw, cl90, isAlloc, dalloc, reduceCtorEq]))
    obtain ⟨H3, e3, hx3, g3, hw3⟩ := zob hw2 15 12 (by omega) (.row [.int .i64 (cmpZ t.args.length t'.args.length), .int .i64 (cmpS t.name t'.name)] 3)
    simp only [e3]
    clear e3
    refine (zms (row2 g3).1 (row2 g3).2).mono ?_
    rintro v H1 ⟨rfl, rfl⟩
    have gp3 := hx3.get hw2 gp
    have gq3 := hx3.get hw2 gq
    have hx23 := hx2.trans hx3
    repeat' (first | refine EvC.seq ?_ | refine EvC.scope ?_ | refine EvC.block ?_ | (refine EvC.skip ?_) | (refine EvC.exit ?_) | (refine EvC.ret ?_; try simp only [z01, z00]) | (refine EvC.reg ?_; simp (config := { maxSteps := 2000000 }) (disch := first | omega | rfl) only [sA]) | (refine z0h ?_; simp (config := { maxSteps := 2000000 }) (disch := first | omega | rfl) only [sD, sB, Nat.reduceEqDiff, Nat.reduceAdd, reduceCtorEq, isAlloc, isRead, reduceCtorEq]))
    refine EvC.loop (fun k st => ∃ tm H' i w, st = ⟨tm, [], H'⟩ ∧ k = t.args.length - i ∧ i ≤ t.args.length ∧ (headZ t t' = 0 ∨ headZ t t' = w) ∧ (headZ t t' = 0 → (if w = 0 then ordL (t.args.drop i) (t'.args.drop i) else w) = ordL t.args t'.args) ∧
      tm.get 2 = some (.pointer (some ⟨H.next, 0, none⟩)) ∧ tm.get 3 = some (.pointer (some ⟨H.next + 1, 0, none⟩)) ∧ tm.get 5 = some (.int .i64 w) ∧ tm.get 6 = some (.int .i64 (i : Nat)) ∧
      H'.get H.next = some (.row (six t a c) 26) ∧ H'.get (H.next + 1) = some (.row (six t' a' c') 26) ∧ HX H H') ?_ t.args.length _ ?_
    · rintro k st ⟨tm, H', i, w, rfl, rfl, hi, hh, hc, t2, t3, t5, t6, gp', gq', hx'⟩
      have q1 := row6 gp'
      have q2 := row6 gq'
      have fin : ∀ u : Int, ordT t t' = if headZ t t' = 0 then ordL t.args t'.args else headZ t t' := fun _ => by rw [z5o, if_neg (fun h => h hk), if_neg k1, if_neg k3, if_neg k4]
      by_cases hlt : i < t.args.length
      · by_cases h0 : w = 0
        · have hh0 : headZ t t' = 0 := by rcases hh with h | h; exact h; rw [h]; exact h0
          have hlt' : i < t'.args.length := by rw [← zec hh0]; exact hlt
          obtain ⟨b, o, a1, c1, rfl, hld, hr1⟩ := rl.el hlt
          obtain ⟨b', o', a2, c2, rfl, hld', hr2⟩ := rl'.el hlt'
          have hld1 := hx'.load hw hld
          have hld2 := hx'.load hw hld'
          repeat' (first | refine EvC.seq ?_ | refine EvC.scope ?_ | refine EvC.block ?_ | (refine EvC.skip ?_; try simp only [z02]) | (refine EvC.exit ?_) | (refine EvC.ret ?_; try simp only [z01, z00]) | (refine EvC.reg ?_; simp (config := { maxSteps := 2000000 }) (disch := first | omega | rfl) only [sB, Nat.reduceEqDiff, z19, ld24, ln24, t2, t5, t6, q1, decl hlt, z1p h0]) | (refine EvC.drw (id := 14) [([(0, 0), (1, 0), (2, 0), (3, 0), (4, 0), (5, 0), (6, 0), (7, 0), (8, 0), (9, 0)], some 10), ([(11, 1)], none)] ?_ ?_; kernel_rfl; simp (config := { maxSteps := 2000000 }) (disch := first | omega | rfl) only [sD, sB, Nat.reduceEqDiff, Nat.reduceAdd, reduceCtorEq, z19, ld24, ia24, ld26, cl53, t2, t3, t6, q1, q2, hld1, hld2, isAlloc, isRead, reduceCtorEq]) | (refine EvC.condT ?_ ?_; simp (config := { maxSteps := 2000000 }) (disch := first | omega | rfl) only [sB, Nat.reduceEqDiff]; refine z03 ?_))
          have hb := hx'.bump 12
          have hs := z1q (List.getElem?_eq_getElem hlt)
          refine (ih (t := t.args[i]) (t' := t'.args[i]) (by omega) (hr1.mono hb hw) (hr2.mono hb hw) (hn.args _ (List.getElem_mem _)) (hn'.args _ (List.getElem_mem _)) hb.wf).mono ?_
          rintro v H4 ⟨rfl, hx4⟩
          have hx5 := hb.trans hx4
          have hm := rl.max
          repeat' (first | refine EvC.seq ?_ | refine EvC.scope ?_ | refine EvC.block ?_ | (refine EvC.skip ?_) | (refine EvC.exit ?_) | (refine EvC.ret ?_; try simp only [z01, z00]) | (refine EvC.reg ?_; simp (config := { maxSteps := 2000000 }) (disch := first | omega | rfl) only [sB, Nat.reduceEqDiff, t6, z05]) | (refine z0h ?_; simp (config := { maxSteps := 2000000 }) (disch := first | omega | rfl) only [sD, sB, Nat.reduceEqDiff, isAlloc, isRead]))
          refine ⟨t.args.length - (i + 1), by omega, _, _, i + 1, ordT t.args[i] t'.args[i], rfl, rfl, by omega, .inl hh0, fun _ => ?_, (by simp only [sG, Nat.reduceEqDiff, t2] <;> rfl), (by simp only [sG, Nat.reduceEqDiff, t3] <;> rfl), (by simp only [sG, Nat.reduceEqDiff] <;> rfl), (by simp only [sB, Nat.reduceEqDiff] <;> rfl), hx4.get hb.wf gp', hx4.get hb.wf gq', hx5⟩
          rw [← hc hh0, if_pos h0, zhv (List.getElem?_eq_getElem hlt) (List.getElem?_eq_getElem hlt')]
        · repeat' (first | refine EvC.seq ?_ | refine EvC.scope ?_ | refine EvC.block ?_ | (refine EvC.skip ?_) | (refine EvC.exit ?_; try simp only [sB]) | (refine EvC.ret ?_; try simp only [z01, z00]) | (refine EvC.reg ?_; simp (config := { maxSteps := 2000000 }) (disch := first | omega | rfl) only [sB, Nat.reduceEqDiff, z19, ld24, ln24, t2, t5, t6, q1, decl hlt, z0x h0]) | (refine EvC.condT ?_ ?_; simp (config := { maxSteps := 2000000 }) (disch := first | omega | rfl) only [sB, Nat.reduceEqDiff]; refine z03 ?_) | (refine EvC.condF ?_ ?_; simp (config := { maxSteps := 2000000 }) (disch := first | omega | rfl) only [sB, Nat.reduceEqDiff]; refine z03 ?_))
          refine z04 rfl (by simp only [sB, Nat.reduceEqDiff] <;> rfl) ⟨?_, hx'⟩
          rw [fin 0]
          by_cases hh0 : headZ t t' = 0
          · rw [if_pos hh0, ← hc hh0, if_neg h0]
          · rw [if_neg hh0]; rcases hh with h | h
            · exact absurd h hh0
            · rw [h]
      · repeat' (first | refine EvC.seq ?_ | refine EvC.scope ?_ | refine EvC.block ?_ | (refine EvC.skip ?_) | (refine EvC.exit ?_; try simp only [sB]) | (refine EvC.ret ?_; try simp only [z01, z00]) | (refine EvC.reg ?_; simp (config := { maxSteps := 2000000 }) (disch := first | omega | rfl) only [sB, Nat.reduceEqDiff, z19, ld24, ln24, t2, t5, t6, q1, decn hlt, Bool.false_eq_true]) | (refine EvC.condT ?_ ?_; simp (config := { maxSteps := 2000000 }) (disch := first | omega | rfl) only [sB, Nat.reduceEqDiff]; refine z03 ?_) | (refine EvC.condF ?_ ?_; simp (config := { maxSteps := 2000000 }) (disch := first | omega | rfl) only [sB, Nat.reduceEqDiff]; refine z03 ?_))
        refine z04 rfl (by simp only [sB, Nat.reduceEqDiff] <;> rfl) ⟨?_, hx'⟩
        rw [fin 0]
        by_cases hh0 : headZ t t' = 0
        · rw [if_pos hh0, ← hc hh0, List.drop_of_length_le (by omega)]
          by_cases h0 : w = 0
          · rw [if_pos h0, ordL, h0]
          · rw [if_neg h0]
        · rw [if_neg hh0]; rcases hh with h | h
          · exact absurd h hh0
          · rw [h]
    · refine ⟨_, _, 0, headZ t t', rfl, rfl, by omega, .inr rfl, fun h => by rw [if_pos h]; rfl, (by simp only [sG, Nat.reduceEqDiff, reduceCtorEq] <;> rfl), (by simp only [sG, Nat.reduceEqDiff, reduceCtorEq] <;> rfl), (by simp only [sB, Nat.reduceEqDiff, reduceCtorEq] <;> rfl), (by simp only [sB, Nat.reduceEqDiff, reduceCtorEq] <;> rfl), gp3, gq3, hx23⟩
  · repeat' (first | refine EvC.seq ?_ | refine EvC.scope ?_ | refine EvC.block ?_ | (refine EvC.skip ?_) | (refine EvC.exit ?_) | (refine EvC.ret ?_; try simp only [z01, z00]) | (refine EvC.reg ?_; simp (config := { maxSteps := 2000000 }) (disch := first | omega | rfl) only [sB, Nat.reduceEqDiff, reduceCtorEq, z0y, ld3, z31 hk, q1, q2]) | (refine EvC.drw (id := 2) [([(0, 0), (1, 0)], some 2), ([(3, 0), (4, 0)], some 5), ([], some 6), ([(7, 3)], none)] ?_ ?_; kernel_rfl; simp (config := { maxSteps := 2000000 }) (disch := first | omega | rfl) only [sD, sB, Nat.reduceEqDiff, Nat.reduceAdd, reduceCtorEq, z0y, ld3, cl86, q1, isAlloc, isRead, reduceCtorEq]) | (refine EvC.condT ?_ ?_; simp (config := { maxSteps := 2000000 }) (disch := first | omega | rfl) only [sB, Nat.reduceEqDiff, reduceCtorEq]; refine z03 ?_))
    refine zhq.mono ?_
    rintro v H1 ⟨rfl, rfl⟩
    repeat' (first | refine EvC.seq ?_ | refine EvC.scope ?_ | refine EvC.block ?_ | (refine EvC.skip ?_) | (refine EvC.exit ?_) | (refine EvC.ret ?_; try simp only [z01, z00]) | (refine z0h ?_; simp (config := { maxSteps := 2000000 }) (disch := first | omega | rfl) only [sV, sD, sB, Nat.reduceEqDiff, reduceCtorEq, z0y, ld3, cl86, q2, isAlloc, isRead, reduceCtorEq]))
    refine zhq.mono ?_
    rintro v H2 ⟨rfl, rfl⟩
    repeat' (first | refine EvC.seq ?_ | refine EvC.scope ?_ | refine EvC.block ?_ | (refine EvC.skip ?_) | (refine EvC.exit ?_) | (refine EvC.ret ?_; try simp only [z01, z00]) | (refine z0h ?_; simp (config := { maxSteps := 2000000 }) (disch := first | omega | rfl) only [sD, sB, Nat.reduceEqDiff, reduceCtorEq, cl83, reduceCtorEq]))
    refine z5m.mono ?_
    rintro v H3 ⟨rfl, rfl⟩
    repeat' (first | refine EvC.seq ?_ | refine EvC.scope ?_ | refine EvC.block ?_ | (refine EvC.skip ?_) | (refine EvC.exit ?_) | (refine EvC.ret ?_; try simp only [z01, z00]) | (refine z0h ?_; simp (config := { maxSteps := 2000000 }) (disch := first | omega | rfl) only [sD, sB, Nat.reduceEqDiff, Nat.reduceAdd, reduceCtorEq, isAlloc, isRead, reduceCtorEq]))
    exact z04 rfl (by simp only [sB, Nat.reduceEqDiff, reduceCtorEq] <;> rfl) ⟨by rw [z5o, if_pos hk], hx2.bump _⟩
end Go.Proofs.YtlllbkjiadcloaaDoor.hb
end

-- Z12
section
namespace Go.Proofs.YtlllbkjiadcloaaDoor.hb
open Go Go.RowKit Go.Hb
variable {ok : Ok}
set_option maxRecDepth 10000
attribute [local irreducible] LX LG EL STG SOP SGO SGD SAL SRD SEF SEG SLK SCK ES
end Go.Proofs.YtlllbkjiadcloaaDoor.hb
end

-- Z14
section
namespace Go.Proofs.YtlllbkjiadcloaaDoor.hb
open Go Go.RowKit Go.Hb
variable {ok : Ok}
set_option maxRecDepth 10000
attribute [local irreducible] LX LG EL STG SOP SGO SGD SAL SRD SEF SEG SLK SCK ES
end Go.Proofs.YtlllbkjiadcloaaDoor.hb
end

-- U7
section
namespace Go.Proofs.YtlllbkjiadcloaaDoor.hb
open Go Go.RowKit Go.Hb
variable {ok : Ok}
set_option maxRecDepth 10000
attribute [local irreducible] LX LG EL STG SOP SGO SGD SAL SRD SEF SEG SLK SCK ES
theorem zld : ∀ (m : Nat) (t : Tm), SizeOf.sizeOf t < m → (occ t).length ≤ nd t
  | 0, _, h => by omega
  | m + 1, t, h => by
    have hl : ∀ l : List Tm, (∀ u ∈ l, (occ u).length ≤ nd u) → (occL l).length ≤ nd.ndL l := by
      intro l
      induction l with
      | nil => intro _; rw [occL, nd.ndL]; exact Nat.le_refl _
      | cons u l ih => intro hu; rw [occL, nd.ndL, List.length_append]; have := hu u (by simp); have := ih fun v hv => hu v (List.mem_cons_of_mem _ hv); omega
    have := hl t.args fun u hu => zld m u (by have := z0d hu; omega)
    rw [z8f, z2k, List.length_append]
    split <;> simp <;> omega
theorem zmx {t : Tm} (h : checkS t = 0) : (occ t).length ≤ 4000 := by
  have h1 := (z0p.1 h).1
  have h2 := z64 _ t (Nat.lt_succ_self _) 0 h1
  have h3 := zld _ t (Nat.lt_succ_self _)
  omega
theorem zi2 {k b v : Int} {s u : ByteArray} {l l' : List Tm} (h : l'.length = l.length) : nodeS (.mk k s u b v l') = nodeS (.mk k s u b v l) := by
  have hb : blankB (.mk k s u b v l') = blankB (.mk k s u b v l) := by simp only [blankB, Tm.kind, Tm.name, Tm.num, Tm.bits, Tm.var, Tm.args, h]
  have ha : (Tm.mk k s u b v l').args.length = (Tm.mk k s u b v l).args.length := h
  unfold nodeS nodeE
  rw [hb, ha]
  rfl
def plain1 (t : Tm) : Tm := sub (fun n => varT (plcZ (uniq (occ t)) n)) t
theorem RepL.one {H : Heap} {t : Tm} {cs : List Value} {b : Nat} {T : TypeId} (r : RepT H t cs) (g : H.get b = some (.row cs T)) : RepL H [t] (some ⟨b, 0, none⟩) 1 (fun _ => cs) := by
  have h1 := r.len
  refine RepL.of_row g (fun i hi => ?_) (fun i u hu => ?_) (Nat.le_refl _) (by simp [maxLen])
  · match i, hi with
    | 0, _ => simp; exact List.take_of_length_le (by omega)
  · match i, hu with
    | 0, hu => cases hu; exact r
end Go.Proofs.YtlllbkjiadcloaaDoor.hb
end

-- So1
section
namespace Go.Hb
section
variable {α : Type}
structure Ordr (G : α → Prop) (cmp : α → α → Int) : Prop where
  anti : ∀ x y, G x → G y → cmp y x = -(cmp x y)
  le : ∀ x y z, G x → G y → G z → cmp x y ≤ 0 → cmp y z ≤ 0 → cmp x z ≤ 0
variable {G : α → Prop} {cmp : α → α → Int}
theorem Ordr.self (o : Ordr G cmp) {x : α} (h : G x) : cmp x x = 0 := by have := o.anti x x h h; omega
def like (cmp : α → α → Int) (x : α) (l : List α) : List α := l.filter fun y => cmp x y == 0
theorem z3j {x : α} (l m : List α) : like cmp x (l ++ m) = like cmp x l ++ like cmp x m := List.filter_append ..
structure Stb (G : α → Prop) (cmp : α → α → Int) (l m : List α) : Prop where
  perm : l.Perm m
  eq : ∀ x, G x → like cmp x l = like cmp x m
theorem Stb.refl (l : List α) : Stb G cmp l l := ⟨.refl _, fun _ _ => rfl⟩
theorem Stb.symm {l m : List α} (h : Stb G cmp l m) : Stb G cmp m l := ⟨h.perm.symm, fun x hx => (h.eq x hx).symm⟩
theorem Stb.trans {l m n : List α} (h : Stb G cmp l m) (k : Stb G cmp m n) : Stb G cmp l n := ⟨h.perm.trans k.perm, fun x hx => (h.eq x hx).trans (k.eq x hx)⟩
theorem Stb.append {l m l' m' : List α} (h : Stb G cmp l m) (k : Stb G cmp l' m') : Stb G cmp (l ++ l') (m ++ m') :=
  ⟨h.perm.append k.perm, fun x hx => by rw [z3j, z3j, h.eq x hx, k.eq x hx]⟩
theorem zed {x : α} {l : List α} (h : ∀ y ∈ l, cmp x y ≠ 0) : like cmp x l = [] := by
  unfold like; rw [List.filter_eq_nil_iff]; intro y hy; simpa using h y hy
theorem Stb.swap (o : Ordr G cmp) {u v : List α} (hu : ∀ x ∈ u, G x) (hv : ∀ x ∈ v, G x) (h : ∀ x ∈ u, ∀ y ∈ v, cmp y x < 0) : Stb G cmp (u ++ v) (v ++ u) := by
  refine ⟨List.perm_append_comm, fun z hz => ?_⟩
  rw [z3j, z3j]
  by_cases hc : ∃ x ∈ u, cmp z x = 0
  · obtain ⟨x, hx, he⟩ := hc
    have : like cmp z v = [] := zed fun y hy e => by
      have h1 := h x hx y hy
      have h2 := o.anti z y hz (hv y hy)
      have := o.le y z x (hv y hy) hz (hu x hx) (by omega) (by omega)
      have h3 := o.anti z x hz (hu x hx)
      have := o.le x z y (hu x hx) hz (hv y hy) (by omega) (by omega)
      have := o.anti x y (hu x hx) (hv y hy)
      omega
    rw [this]; simp
  · have : like cmp z u = [] := zed fun y hy e => hc ⟨y, hy, e⟩
    rw [this]; simp
def Srt (cmp : α → α → Int) (l : List α) : Prop := l.Pairwise fun x y => cmp x y ≤ 0
theorem Srt.one (o : Ordr G cmp) : ∀ {l m : List α}, (∀ x ∈ l, G x) → Srt cmp l → Srt cmp m → Stb G cmp l m → l = m
  | [], m, _, _, _, h => by have := h.perm.length_eq; exact (List.length_eq_zero_iff.1 this.symm).symm
  | x :: l, [], _, _, _, h => by have := h.perm.length_eq; simp at this
  | x :: l, y :: m, hg, h1, h2, h => by
    have hgm : ∀ z ∈ y :: m, G z := fun z hz => hg z (h.perm.mem_iff.2 hz)
    have gx := hg x (by simp)
    have gy := hgm y (by simp)
    have hxy : cmp x y ≤ 0 := by
      have hy : y ∈ x :: l := h.perm.mem_iff.2 (by simp)
      rcases List.mem_cons.1 hy with e | hy
      · rw [e, o.self gx]; exact Int.le_refl _
      · exact (List.pairwise_cons.1 h1).1 y hy
    have hyx : cmp y x ≤ 0 := by
      have hx : x ∈ y :: m := h.perm.mem_iff.1 (by simp)
      rcases List.mem_cons.1 hx with e | hx
      · rw [e, o.self gy]; exact Int.le_refl _
      · exact (List.pairwise_cons.1 h2).1 x hx
    have a := o.anti x y gx gy
    have e0 := h.eq x gx
    unfold like at e0
    rw [List.filter_cons_of_pos (by simp [o.self gx]), List.filter_cons_of_pos (by simp; omega)] at e0
    obtain ⟨rfl, -⟩ := List.cons.inj e0
    rw [Srt.one o (fun z hz => hg z (List.mem_cons_of_mem _ hz)) (List.pairwise_cons.1 h1).2 (List.pairwise_cons.1 h2).2 ⟨h.perm.cons_inv, fun z hz => ?_⟩]
    have := h.eq z hz
    unfold like at this ⊢
    by_cases hc : cmp z x = 0
    · rw [List.filter_cons_of_pos (by simp [hc]), List.filter_cons_of_pos (by simp [hc])] at this; exact (List.cons.inj this).2
    · rw [List.filter_cons_of_neg (by simp [hc]), List.filter_cons_of_neg (by simp [hc])] at this; exact this
def rowF (n : Nat) (D : Nat → α) : List α := (List.range n).map D
theorem zjz {n : Nat} {D : Nat → α} : (rowF n D).length = n := by simp [rowF]
def segF (a n : Nat) (D : Nat → α) : List α := (List.range' a n).map D
theorem z67 {a n : Nat} {D : Nat → α} {x : α} : x ∈ segF a n D ↔ ∃ i, a ≤ i ∧ i < a + n ∧ D i = x := by
  simp [segF, and_assoc]
theorem z48 {a m n : Nat} {D : Nat → α} : segF a (m + n) D = segF a m D ++ segF (a + m) n D := by
  unfold segF; rw [← List.map_append, List.range'_append_1]
theorem zee {n : Nat} {D : Nat → α} : rowF n D = segF 0 n D := by unfold rowF segF; rw [List.range_eq_range']
theorem z49 {a b n : Nat} {D E : Nat → α} (h : ∀ i, i < n → D (a + i) = E (b + i)) : segF a n D = segF b n E := by
  apply List.ext_getElem
  · simp [segF]
  · intro i h1 h2
    simp [segF] at h1 ⊢
    exact h i h1
structure Mv (G : α → Prop) (cmp : α → α → Int) (a b : Nat) (D E : Nat → α) : Prop where
  out : ∀ k, k < a ∨ b ≤ k → E k = D k
  inn : ∀ k, a ≤ k → k < b → ∃ j, a ≤ j ∧ j < b ∧ E k = D j
  stb : ∀ n, b ≤ n → Stb G cmp (rowF n D) (rowF n E)
theorem Mv.refl {a b : Nat} (D : Nat → α) : Mv G cmp a b D D := ⟨fun _ _ => rfl, fun k h1 h2 => ⟨k, h1, h2, rfl⟩, fun _ _ => .refl _⟩
theorem Mv.trans {a b : Nat} {D E F : Nat → α} (h : Mv G cmp a b D E) (k : Mv G cmp a b E F) : Mv G cmp a b D F :=
  ⟨fun i hi => (k.out i hi).trans (h.out i hi), fun i h1 h2 => by
    obtain ⟨j, j1, j2, e⟩ := k.inn i h1 h2
    obtain ⟨l, l1, l2, e2⟩ := h.inn j j1 j2
    exact ⟨l, l1, l2, e.trans e2⟩, fun n hn => (h.stb n hn).trans (k.stb n hn)⟩
theorem Mv.wide {a b a' b' : Nat} {D E : Nat → α} (h : Mv G cmp a b D E) (ha : a' ≤ a) (hb : b ≤ b') : Mv G cmp a' b' D E :=
  ⟨fun k hk => h.out k (by omega), fun k h1 h2 => by
    by_cases hk : a ≤ k ∧ k < b
    · obtain ⟨j, j1, j2, e⟩ := h.inn k hk.1 hk.2
      exact ⟨j, by omega, by omega, e⟩
    · exact ⟨k, h1, h2, h.out k (by omega)⟩, fun n hn => h.stb n (by omega)⟩
def rotF (a m b : Nat) (D : Nat → α) : Nat → α := fun k => if a ≤ k ∧ k < a + (b - m) then D (k + (m - a)) else if a ≤ k ∧ k < b then D (k - (b - m)) else D k
theorem Mv.rot (o : Ordr G cmp) {a m b : Nat} {D : Nat → α} (h1 : a ≤ m) (h2 : m ≤ b) (hg : ∀ k, k < b → G (D k)) (h : ∀ i j, a ≤ i → i < m → m ≤ j → j < b → cmp (D j) (D i) < 0) : Mv G cmp a b D (rotF a m b D) := by
  refine ⟨fun k hk => ?_, fun k k1 k2 => ?_, fun n hn => ?_⟩
  · unfold rotF; rw [if_neg (by omega), if_neg (by omega)]
  · unfold rotF
    by_cases hc : k < a + (b - m)
    · rw [if_pos ⟨k1, hc⟩]; exact ⟨_, by omega, by omega, rfl⟩
    · rw [if_neg (by omega), if_pos ⟨k1, k2⟩]; exact ⟨_, by omega, by omega, rfl⟩
  · obtain ⟨p, rfl⟩ : ∃ p, n = a + ((m - a) + (b - m)) + p := ⟨n - b, by omega⟩
    rw [zee, zee, z48, z48, z48, z48 (D := rotF a m b D), z48 (D := rotF a m b D), show segF (0 + a) (m - a + (b - m)) (rotF a m b D) = segF (0 + a) (b - m) (rotF a m b D) ++ segF (0 + a + (b - m)) (m - a) (rotF a m b D) by rw [← z48, Nat.add_comm (b - m)]]
    rw [z49 (a := 0) (b := 0) (D := rotF a m b D) (E := D) (fun i hi => by unfold rotF; rw [if_neg (by omega), if_neg (by omega)]),
      z49 (a := 0 + a) (b := 0 + a + (m - a)) (D := rotF a m b D) (E := D) (fun i hi => by unfold rotF; rw [if_pos (by omega)]; congr 1; omega),
      z49 (a := 0 + a + (b - m)) (b := 0 + a) (D := rotF a m b D) (E := D) (fun i hi => by unfold rotF; rw [if_neg (by omega), if_pos (by omega)]; congr 1; omega),
      z49 (a := 0 + (a + (m - a + (b - m)))) (b := 0 + (a + (m - a + (b - m)))) (D := rotF a m b D) (E := D) (fun i hi => by unfold rotF; rw [if_neg (by omega), if_neg (by omega)])]
    refine ((Stb.refl _).append (Stb.swap o (fun x hx => ?_) (fun x hx => ?_) (fun x hx y hy => ?_))).append (.refl _)
    · obtain ⟨i, i1, i2, rfl⟩ := z67.1 hx; exact hg i (by omega)
    · obtain ⟨i, i1, i2, rfl⟩ := z67.1 hx; exact hg i (by omega)
    · obtain ⟨i, i1, i2, rfl⟩ := z67.1 hx
      obtain ⟨j, j1, j2, rfl⟩ := z67.1 hy
      exact h i j (by omega) (by omega) (by omega) (by omega)
def swF (i j : Nat) (D : Nat → α) : Nat → α := fun k => if k = i then D j else if k = j then D i else D k
theorem zmy {j : Nat} {D : Nat → α} : rotF j (j + 1) (j + 2) D = swF j (j + 1) D := by
  funext k
  unfold rotF swF
  by_cases h1 : k = j
  · subst h1; rw [if_pos (by omega), if_pos rfl]; congr 1; omega
  · by_cases h2 : k = j + 1
    · subst h2; rw [if_neg (by omega), if_pos (by omega), if_neg (by omega), if_pos rfl]; congr 1; omega
    · rw [if_neg (by omega), if_neg (by omega), if_neg h1, if_neg h2]
theorem Mv.swap (o : Ordr G cmp) {a b j : Nat} {D : Nat → α} (h1 : a ≤ j) (h2 : j + 2 ≤ b) (hg : ∀ k, k < b → G (D k)) (h : cmp (D (j + 1)) (D j) < 0) : Mv G cmp a b D (swF j (j + 1) D) := by
  rw [← zmy]
  refine (Mv.rot o (by omega) (by omega) (fun k hk => hg k (by omega)) fun i k i1 i2 k1 k2 => ?_).wide h1 h2
  obtain rfl : i = j := by omega
  obtain rfl : k = i + 1 := by omega
  exact h
def InO (cmp : α → α → Int) (a b : Nat) (D : Nat → α) : Prop := ∀ p q, a ≤ p → p < q → q < b → cmp (D p) (D q) ≤ 0
theorem InO.srt {n : Nat} {D : Nat → α} (h : InO cmp 0 n D) : Srt cmp (rowF n D) := by
  unfold Srt rowF
  rw [List.pairwise_map, List.pairwise_iff_getElem]
  intro i j hi hj hij
  simp at hi hj ⊢
  exact h i j (by omega) hij hj
end
end Go.Hb
end

-- Pd1
section
namespace Go.Hb
section
variable {α : Type}
def Pm (a b : Nat) (D E : Nat → α) : Prop := ∃ s t : Nat → Nat, (∀ k, t (s k) = k) ∧ (∀ k, s (t k) = k) ∧ (∀ k, k < a ∨ b ≤ k → s k = k) ∧ ∀ k, E k = D (s k)
theorem Pm.refl {a b : Nat} (D : Nat → α) : Pm a b D D := ⟨id, id, fun _ => rfl, fun _ => rfl, fun _ _ => rfl, fun _ => rfl⟩
theorem Pm.trans {a b : Nat} {D E F : Nat → α} (h : Pm a b D E) (k : Pm a b E F) : Pm a b D F := by
  obtain ⟨s, t, h1, h2, h3, h4⟩ := h
  obtain ⟨u, v, k1, k2, k3, k4⟩ := k
  refine ⟨fun i => s (u i), fun i => v (t i), fun i => by simp only [h1, k1], fun i => by simp only [h2, k2], fun i hi => by simp only [k3 i hi, h3 i hi], fun i => by rw [k4, h4]⟩
theorem Pm.wide {a b a' b' : Nat} {D E : Nat → α} (h : Pm a b D E) (ha : a' ≤ a) (hb : b ≤ b') : Pm a' b' D E := by
  obtain ⟨s, t, h1, h2, h3, h4⟩ := h
  exact ⟨s, t, h1, h2, fun k hk => h3 k (by omega), h4⟩
theorem Pm.out {a b : Nat} {D E : Nat → α} (h : Pm a b D E) {k : Nat} (hk : k < a ∨ b ≤ k) : E k = D k := by
  obtain ⟨s, t, h1, h2, h3, h4⟩ := h
  rw [h4, h3 k hk]
theorem Pm.inn {a b : Nat} {D E : Nat → α} (h : Pm a b D E) {k : Nat} (h1 : a ≤ k) (h2 : k < b) : ∃ j, a ≤ j ∧ j < b ∧ E k = D j := by
  obtain ⟨s, t, k1, k2, k3, k4⟩ := h
  by_cases hc : a ≤ s k ∧ s k < b
  · exact ⟨s k, hc.1, hc.2, k4 k⟩
  · have e := k3 (s k) (by omega)
    have e2 := k1 (s k)
    rw [e] at e2
    have e3 := k1 k
    rw [e3] at e2
    omega
theorem Pm.swap {a b i j : Nat} {D : Nat → α} (h1 : a ≤ i) (h2 : i < b) (h3 : a ≤ j) (h4 : j < b) : Pm a b D (swF i j D) := by
  refine ⟨fun k => if k = i then j else if k = j then i else k, fun k => if k = i then j else if k = j then i else k, fun k => ?_, fun k => ?_, fun k hk => ?_, fun k => ?_⟩
  · by_cases e1 : k = i
    · subst e1; by_cases e2 : j = k <;> simp [e2]
    · by_cases e2 : k = j
      · subst e2; simp [e1]
      · simp [e1, e2]
  · by_cases e1 : k = i
    · subst e1; by_cases e2 : j = k <;> simp [e2]
    · by_cases e2 : k = j
      · subst e2; simp [e1]
      · simp [e1, e2]
  · simp only; rw [if_neg (by omega), if_neg (by omega)]
  · unfold swF; simp only; split
    · rfl
    · split <;> rfl
theorem Pm.all {a b : Nat} {D E : Nat → α} (h : Pm a b D E) {P : α → Prop} (hP : ∀ k, a ≤ k → k < b → P (D k)) : ∀ k, a ≤ k → k < b → P (E k) := fun k h1 h2 => by
  obtain ⟨j, j1, j2, e⟩ := h.inn h1 h2
  rw [e]; exact hP j j1 j2
def InZ (z : α → Int) (a b : Nat) (D : Nat → α) : Prop := ∀ p q, a ≤ p → p < q → q < b → z (D p) ≤ z (D q)
theorem InZ.few {z : α → Int} {a b : Nat} {D : Nat → α} (h : b ≤ a + 1) : InZ z a b D := fun p q h1 h2 h3 => by omega
theorem InZ.join {z : α → Int} {a m b : Nat} {D : Nat → α} (h1 : InZ z a m D) (h2 : InZ z (m + 1) b D) (h3 : ∀ k, a ≤ k → k < m → z (D k) ≤ z (D m)) (h4 : ∀ k, m < k → k < b → z (D m) ≤ z (D k)) : InZ z a b D := fun p q hp hpq hq => by
  by_cases c1 : q < m
  · exact h1 p q hp hpq c1
  by_cases c2 : m < p
  · exact h2 p q (by omega) hpq hq
  by_cases c3 : p = m
  · subst c3; exact h4 q hpq hq
  by_cases c4 : q = m
  · subst c4; exact h3 p hp hpq
  exact Int.le_trans (h3 p hp (by omega)) (h4 q (by omega) hq)
def HpF (z : α → Int) (f lo hi : Nat) (D : Nat → α) : Prop := ∀ k c, lo ≤ k → (c = 2 * k + 1 ∨ c = 2 * k + 2) → c < hi → z (D (f + c)) ≤ z (D (f + k))
def HpX (z : α → Int) (f lo hi r : Nat) (D : Nat → α) : Prop :=
  (∀ k c, lo ≤ k → k ≠ r → (c = 2 * k + 1 ∨ c = 2 * k + 2) → c < hi → z (D (f + c)) ≤ z (D (f + k))) ∧
  (∀ k c, lo ≤ k → (r = 2 * k + 1 ∨ r = 2 * k + 2) → (c = 2 * r + 1 ∨ c = 2 * r + 2) → c < hi → z (D (f + c)) ≤ z (D (f + k)))
theorem HpX.done {z : α → Int} {f lo hi r : Nat} {D : Nat → α} (h : HpX z f lo hi r D) (hr : ∀ c, (c = 2 * r + 1 ∨ c = 2 * r + 2) → c < hi → z (D (f + c)) ≤ z (D (f + r))) : HpF z f lo hi D := fun k c h1 h2 h3 => by
  by_cases e : k = r
  · subst e; exact hr c h2 h3
  · exact h.1 k c h1 e h2 h3
theorem HpX.start {z : α → Int} {f lo hi : Nat} {D : Nat → α} (h : HpF z f (lo + 1) hi D) : HpX z f lo hi lo D :=
  ⟨fun k c h1 h2 h3 h4 => h k c (by omega) h3 h4, fun k c h1 h2 h3 h4 => by omega⟩
theorem HpX.step {z : α → Int} {f lo hi r c : Nat} {D : Nat → α} (h : HpX z f lo hi r D) (hlo : lo ≤ r) (hc : c = 2 * r + 1 ∨ c = 2 * r + 2) (hi1 : c < hi) (hlt : z (D (f + r)) < z (D (f + c)))
    (hbig : ∀ d, (d = 2 * r + 1 ∨ d = 2 * r + 2) → d < hi → z (D (f + d)) ≤ z (D (f + c))) : HpX z f lo hi c (swF (f + r) (f + c) D) := by
  have e1 : swF (f + r) (f + c) D (f + r) = D (f + c) := by unfold swF; rw [if_pos rfl]
  have e2 : swF (f + r) (f + c) D (f + c) = D (f + r) := by unfold swF; rw [if_neg (by omega), if_pos rfl]
  have e3 : ∀ k, k ≠ r → k ≠ c → swF (f + r) (f + c) D (f + k) = D (f + k) := fun k h1 h2 => by unfold swF; rw [if_neg (by omega), if_neg (by omega)]
  constructor
  · intro k d h1 h2 h3 h4
    by_cases k1 : k = r
    · subst k1
      rw [e1]
      by_cases d1 : d = c
      · subst d1; rw [e2]; omega
      · rw [e3 d (by omega) d1]; exact hbig d h3 h4
    · rw [e3 k k1 h2]
      by_cases d1 : d = r
      · subst d1; rw [e1]; exact h.2 k c h1 h3 hc hi1
      · by_cases d2 : d = c
        · omega
        · rw [e3 d d1 d2]; exact h.1 k d h1 k1 h3 h4
  · intro k d h1 h2 h3 h4
    obtain rfl : k = r := by omega
    rw [e1, e3 d (by omega) (by omega)]
    exact h.1 c d (by omega) (by omega) h3 h4
theorem HpF.top {z : α → Int} {f hi : Nat} {D : Nat → α} (h : HpF z f 0 hi D) : ∀ k, k < hi → z (D (f + k)) ≤ z (D f) := by
  intro k
  induction k using Nat.strongRecOn with
  | _ k ih =>
    intro hk
    by_cases h0 : k = 0
    · subst h0; exact Int.le_refl _
    · have := h ((k - 1) / 2) k (Nat.zero_le _) (by omega) hk
      exact Int.le_trans this (ih _ (by omega) (by omega))
theorem zk0 {z : α → Int} {a j e : Nat} {D D2 : Nat → α} (hp : HpF z a 0 (j + 1) D) (ho : InZ z (a + (j + 1)) e D) (hb : ∀ p q, a ≤ p → p < a + (j + 1) → a + (j + 1) ≤ q → q < e → z (D p) ≤ z (D q)) (hm : Pm a (a + j) (swF a (a + j) D) D2) (hje : a + (j + 1) ≤ e) :
    InZ z (a + j) e D2 ∧ (∀ p q, a ≤ p → p < a + j → a + j ≤ q → q < e → z (D2 p) ≤ z (D2 q)) := by
  have e1 : D2 (a + j) = D a := by
    rw [hm.out (.inr (Nat.le_refl _))]; unfold swF
    by_cases h : a + j = a
    · rw [if_pos h, h]
    · rw [if_neg h, if_pos rfl]
  have e2 : ∀ q, a + j < q → D2 q = D q := fun q hq => by
    rw [hm.out (.inr (by omega))]; unfold swF; rw [if_neg (by omega), if_neg (by omega)]
  have top : ∀ p, a ≤ p → p < a + (j + 1) → z (D p) ≤ z (D a) := fun p h1 h2 => by
    have := hp.top (p - a) (by omega)
    rwa [show a + (p - a) = p by omega] at this
  constructor
  · intro p q h1 h2 h3
    rw [e2 q (by omega)]
    by_cases h : p = a + j
    · subst h; rw [e1]; exact hb a q (Nat.le_refl _) (by omega) (by omega) h3
    · rw [e2 p (by omega)]; exact ho p q (by omega) h2 h3
  · intro p q h1 h2 h3 h4
    obtain ⟨r, r1, r2, r3⟩ := hm.inn h1 h2
    have : ∃ s, a ≤ s ∧ s < a + (j + 1) ∧ D2 p = D s := by
      rw [r3]; unfold swF
      by_cases h : r = a
      · rw [if_pos h]; exact ⟨_, by omega, by omega, rfl⟩
      · rw [if_neg h, if_neg (by omega)]; exact ⟨r, r1, by omega, rfl⟩
    obtain ⟨s, s1, s2, s3⟩ := this
    rw [s3]
    by_cases h : q = a + j
    · subst h; rw [e1]; exact top s s1 s2
    · rw [e2 q (by omega)]; exact hb s q s1 s2 (by omega) h4
theorem HpF.drop {z : α → Int} {a j : Nat} {D : Nat → α} (hp : HpF z a 0 (j + 1) D) : HpF z a 1 j (swF a (a + j) D) := fun k c h1 h2 h3 => by
  have hk : swF a (a + j) D (a + k) = D (a + k) := by unfold swF; rw [if_neg (by omega), if_neg (by omega)]
  have hc : swF a (a + j) D (a + c) = D (a + c) := by unfold swF; rw [if_neg (by omega), if_neg (by omega)]
  rw [hk, hc]; exact hp k c (Nat.zero_le _) h2 (by omega)
end
end Go.Hb
end
