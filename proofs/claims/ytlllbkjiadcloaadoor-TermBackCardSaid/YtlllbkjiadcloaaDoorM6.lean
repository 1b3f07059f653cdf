import Derived.Test.YtlllbkjiadcloaaDoorM5
import Derived.Test.YtlllbkjiadcloaaDoorM4
import Derived.Test.YtlllbkjiadcloaaDoorM3
/- Lemmas on the program's own code, towards the laws of this folder, part 6. Conditions: as each lemma says. -/
-- So2
section
namespace Go.Hb
open Go Go.RowKit
structure El where
  t : Tm
  a : Option Addr
  c : Nat
  S : Nat → Prop
abbrev El.six (e : El) : List Value := Hb.six e.t e.a e.c
theorem El.six_len (e : El) : e.six.length = 6 := rfl
theorem El.six_ones (e : El) : e.six.all one = true := rfl
structure RowE (H : Heap) (T : TypeId) (b n : Nat) (D : Nat → El) : Prop where
  row : ∃ cells, H.get b = some (.row cells T) ∧ n * 6 ≤ cells.length ∧ ∀ k, k < n → (cells.drop (k * 6)).take 6 = (D k).six
theorem RowE.load {H : Heap} {T : TypeId} {b n : Nat} {D : Nat → El} (h : RowE H T b n D) {k : Nat} (hk : k < n) : H.load ⟨b, k * 6, none⟩ 6 = some (D k).six := by
  obtain ⟨cells, hg, hl, he⟩ := h
  unfold Heap.load Heap.cells
  simp only [hg, he k hk]
  rfl
theorem RowE.heap {H H' : Heap} {T : TypeId} {b n : Nat} {D : Nat → El} (h : RowE H T b n D) (hg : H'.get b = H.get b) : RowE H' T b n D := by
  obtain ⟨cells, h1, h2⟩ := h
  exact ⟨cells, by rw [hg]; exact h1, h2⟩
theorem RowE.congr {H : Heap} {T : TypeId} {b n : Nat} {D E : Nat → El} (h : RowE H T b n D) (he : ∀ k, k < n → E k = D k) : RowE H T b n E := by
  obtain ⟨cells, h1, h2, h3⟩ := h
  exact ⟨cells, h1, h2, fun k hk => by rw [he k hk]; exact h3 k hk⟩
theorem RowE.put {H : Heap} {T : TypeId} {b n : Nat} {D : Nat → El} {cells : List Value} (hl : n * 6 ≤ cells.length) (he : ∀ k, k < n → (cells.drop (k * 6)).take 6 = (D k).six) {i : Nat} (hi : i < n) (e : El) :
    RowE (H.put b (some (.row (Hb.splice cells (i * 6) e.six) T))) T b n (fun k => if k = i then e else D k) := by
  have hle : i * 6 + e.six.length ≤ cells.length := by have := mul6 hi; rw [El.six_len]; omega
  refine ⟨_, by rw [get_put, if_pos rfl], by rw [z0e hle]; exact hl, fun k hk => ?_⟩
  by_cases h : k = i
  · subst h; rw [if_pos rfl]; exact z3h (s := 6) hle rfl
  · rw [if_neg h, z2p (s := 6) hle rfl (by rcases Nat.lt_or_gt_of_ne h with h | h; exact .inl (mul6 h); exact .inr (mul6 h))]; exact he k hk
theorem RowE.swap {H : Heap} {T : TypeId} {b n : Nat} {D : Nat → El} {cells : List Value} (hl : n * 6 ≤ cells.length) (he : ∀ k, k < n → (cells.drop (k * 6)).take 6 = (D k).six) {i j : Nat} (hi : i < n) (hj : j < n) (hij : i ≠ j) (H2 : Heap)
    (h2 : H2.get b = some (.row (Hb.splice (Hb.splice cells (i * 6) (D j).six) (j * 6) (D i).six) T)) : RowE H2 T b n (swF i j D) := by
  obtain ⟨c1, g1, l1, e1⟩ := RowE.put (H := H) (T := T) (b := b) hl he hi (D j)
  rw [get_put, if_pos rfl] at g1
  cases g1
  have := (RowE.put (H := H2) (T := T) (b := b) l1 e1 hj (D i)).heap (H' := H2) (by rw [get_put, if_pos rfl, h2])
  refine this.congr fun k hk => ?_
  unfold swF
  by_cases h1 : k = i
  · subst h1; rw [if_pos rfl, if_neg hij, if_pos rfl]
  · rw [if_neg h1]
    by_cases h3 : k = j
    · rw [if_pos h3, if_pos h3]
    · rw [if_neg h3, if_neg h3, if_neg h1]
end Go.Hb
end

-- Pd2
section
namespace Go.Hb
open Go Go.RowKit
def dNil (v : Value) (H : Heap) : Option Dr := match v with
  | .pointer (some a) => some (.val (.pointer (some a)) H)
  | .func (.func f) a b => some (.val (.func (.func f) a b) H)
  | _ => none
theorem z25 {P : Program} {d : Option Tmp} {ty : TypeId} {pos : String} {af : Array Edge} {g : Option (Nat × Bool)} {ρ : Operand → Value} {H : Heap} {x : Operand} : dop P ⟨d, .nilCheck x, ty, pos, af, g⟩ ρ H = dNil (ρ x) H := _root_.id rfl
theorem z5b {a : Addr} {H : Heap} : dNil (.pointer (some a)) H = some (.val (.pointer (some a)) H) := _root_.id rfl
structure Bnd where
  v : Int
  e : El
abbrev Bnd.seven (d : Bnd) : List Value := .int .i64 d.v :: d.e.six
theorem Bnd.seven_len (d : Bnd) : d.seven.length = 7 := rfl
theorem Bnd.seven_ones (d : Bnd) : d.seven.all one = true := rfl
theorem mul7 {k n : Nat} (h : k < n) : k * 7 + 7 ≤ n * 7 := by omega
structure RowB (H : Heap) (T : TypeId) (b n : Nat) (D : Nat → Bnd) : Prop where
  row : ∃ cells, H.get b = some (.row cells T) ∧ n * 7 ≤ cells.length ∧ ∀ k, k < n → (cells.drop (k * 7)).take 7 = (D k).seven
theorem RowB.load {H : Heap} {T : TypeId} {b n : Nat} {D : Nat → Bnd} (h : RowB H T b n D) {k : Nat} (hk : k < n) : H.load ⟨b, k * 7, none⟩ 7 = some (D k).seven := by
  obtain ⟨cells, hg, hl, he⟩ := h
  unfold Heap.load Heap.cells
  simp only [hg, he k hk]
  rfl
theorem RowB.heap {H H' : Heap} {T : TypeId} {b n : Nat} {D : Nat → Bnd} (h : RowB H T b n D) (hg : H'.get b = H.get b) : RowB H' T b n D := by
  obtain ⟨cells, h1, h2⟩ := h
  exact ⟨cells, by rw [hg]; exact h1, h2⟩
theorem RowB.congr {H : Heap} {T : TypeId} {b n : Nat} {D E : Nat → Bnd} (h : RowB H T b n D) (he : ∀ k, k < n → E k = D k) : RowB H T b n E := by
  obtain ⟨cells, h1, h2, h3⟩ := h
  exact ⟨cells, h1, h2, fun k hk => by rw [he k hk]; exact h3 k hk⟩
theorem RowB.put {H : Heap} {T : TypeId} {b n : Nat} {D : Nat → Bnd} {cells : List Value} (hl : n * 7 ≤ cells.length) (he : ∀ k, k < n → (cells.drop (k * 7)).take 7 = (D k).seven) {i : Nat} (hi : i < n) (e : Bnd) :
    RowB (H.put b (some (.row (Hb.splice cells (i * 7) e.seven) T))) T b n (fun k => if k = i then e else D k) := by
  have hle : i * 7 + e.seven.length ≤ cells.length := by have := mul7 hi; rw [Bnd.seven_len]; omega
  refine ⟨_, by rw [get_put, if_pos rfl], by rw [z0e hle]; exact hl, fun k hk => ?_⟩
  by_cases h : k = i
  · subst h; rw [if_pos rfl]; exact z3h (s := 7) hle rfl
  · rw [if_neg h, z2p (s := 7) hle rfl (by rcases Nat.lt_or_gt_of_ne h with h | h; exact .inl (mul7 h); exact .inr (mul7 h))]; exact he k hk
theorem RowB.swap {H : Heap} {T : TypeId} {b n : Nat} {D : Nat → Bnd} {cells : List Value} (hl : n * 7 ≤ cells.length) (he : ∀ k, k < n → (cells.drop (k * 7)).take 7 = (D k).seven) {i j : Nat} (hi : i < n) (hj : j < n) (H2 : Heap)
    (h2 : H2.get b = some (.row (Hb.splice (Hb.splice cells (i * 7) (D j).seven) (j * 7) (D i).seven) T)) : RowB H2 T b n (swF i j D) := by
  obtain ⟨c1, g1, l1, e1⟩ := RowB.put (H := H) (T := T) (b := b) hl he hi (D j)
  rw [get_put, if_pos rfl] at g1
  cases g1
  have := (RowB.put (H := H2) (T := T) (b := b) l1 e1 hj (D i)).heap (H' := H2) (by rw [get_put, if_pos rfl, h2])
  refine this.congr fun k hk => ?_
  unfold swF
  by_cases h1 : k = i
  · subst h1; rw [if_pos rfl]
    by_cases h3 : k = j
    · subst h3; rw [if_pos rfl]
    · rw [if_neg h3, if_pos rfl]
  · rw [if_neg h1]
    by_cases h3 : k = j
    · rw [if_pos h3, if_pos h3]
    · rw [if_neg h3, if_neg h3, if_neg h1]
end Go.Hb
end

-- Pu2
section
namespace Go.Proofs.YtlllbkjiadcloaaDoor.hb
open Go Go.RowKit Go.Hb
variable {ok : Ok}
set_option maxRecDepth 10000
attribute [local irreducible] LX LG EL STG SOP SGO SGD SAL SRD SEF SEG SLK SCK ES
theorem z5c {α : Type} (o : Option α) : (∃ u, o = some u) ∨ o = none := by
  cases o with
  | none => exact .inr rfl
  | some u => exact .inl ⟨u, rfl⟩
def lookT (B : List (Int × Tm)) (n : Int) : Option Tm := (B.find? fun p => p.1 == n).map (·.2)
theorem z5p {B : List (Int × Tm)} {n m : Int} {u : Tm} (h : lookT B n = none) : lookT (B ++ [(n, u)]) m = if m = n then some u else lookT B m := by
  unfold lookT at *
  rw [List.find?_append]
  by_cases hm : m = n
  · subst hm
    have : B.find? (fun p => p.1 == m) = none := by simpa using h
    rw [if_pos rfl, this]; simp
  · rw [if_neg hm]
    have : ((n == m) : Bool) = false := by simp; omega
    simp [List.find?_cons, this]
theorem z8i {B : List (Int × Tm)} {n : Int} : lookT B n = none ↔ ∀ p ∈ B, p.1 ≠ n := by
  unfold lookT
  rw [Option.map_eq_none_iff, List.find?_eq_none]
  simp
theorem z34 {B : List (Int × Tm)} {n : Int} {u : Tm} (h : lookT B n = some u) : (n, u) ∈ B := by
  unfold lookT at h
  rw [Option.map_eq_some_iff] at h
  obtain ⟨p, hp, rfl⟩ := h
  have h1 := List.find?_some hp
  have h2 : p.1 = n := by simpa using h1
  rw [← h2]
  exact List.mem_of_find?_eq_some hp
def MapT (H0 H : Heap) (r : Nat) (B : List (Int × Tm)) : Prop := ∃ M, MapR H r M ∧ ∀ n, (∀ u, lookT B n = some u → ∃ cs, mGet M n = some (.agg ⟨cs⟩) ∧ RepT H0 u cs) ∧ (lookT B n = none → mGet M n = none)
theorem MapT.heap {H0 H H' : Heap} {r : Nat} {B : List (Int × Tm)} (h : MapT H0 H r B) (hk : H'.get r = H.get r) : MapT H0 H' r B := by
  obtain ⟨M, h1, h2⟩ := h; exact ⟨M, h1.heap hk, h2⟩
theorem MapT.lt {H0 H : Heap} {r : Nat} {B : List (Int × Tm)} (h : MapT H0 H r B) (hw : H.wf) : r < H.next := by obtain ⟨M, h1, -⟩ := h; exact h1.lt hw
theorem MapT.keep {H0 H H' : Heap} {r : Nat} {B : List (Int × Tm)} (h : MapT H0 H r B) (hx : HX H H') (hw : H.wf) : MapT H0 H' r B := h.heap (hx.keep r (h.lt hw))
theorem MapT.push {P : Program} {t kt et : TypeId} {z : Value} {H0 H : Heap} {r : Nat} {B : List (Int × Tm)} {n : Int} {u : Tm} {cs : List Value} (hp : mpOk P t kt et z) (h : MapT H0 H r B) (hn : lookT B n = none) (hu : RepT H0 u cs) :
    ∃ K, dUp P t (.map (some r)) (.int .i64 n) (.agg ⟨cs⟩) H = some (.val undef (H.put r (some K))) ∧ MapT H0 (H.put r (some K)) r (B ++ [(n, u)]) := by
  obtain ⟨M, h1, h2⟩ := h
  have hM := (h2 n).2 hn
  obtain ⟨K, k1, k2⟩ := zgt (v := .agg ⟨cs⟩) hp h1 hM
  refine ⟨K, k1, _, k2, fun m => ?_⟩
  rw [z5p hn, zam hM]
  by_cases hm : m = n
  · rw [if_pos hm, if_pos hm]
    exact ⟨fun w hw => by cases hw; exact ⟨cs, rfl, hu⟩, fun hw => by cases hw⟩
  · rw [if_neg hm, if_neg hm]; exact h2 m
theorem z7m : mpOk Tryd.prog 93 3 26 (.agg ⟨zero6⟩) := ⟨Tryd.underlying93, Tryd.underlying3, by kernel_rfl, rfl⟩
def addN (σ : Int → Option Tm) (m : Nat) (n : Int) : Nat := match σ n with
  | some u => if m ≤ 4000 then m + cnt u 0 - 1 else m
  | none => m
def allS (σ : Int → Option Tm) (m : Nat) (l : List Int) : Nat := l.foldl (addN σ) m
theorem zmz {σ : Int → Option Tm} {m : Nat} {n : Int} (h : m ≤ 8001) : addN σ m n ≤ 8001 := by
  unfold addN
  split
  · rename_i u _
    have := z9i u
    split <;> omega
  · exact h
theorem zi3 {σ : Int → Option Tm} : ∀ {l : List Int} {m : Nat}, m ≤ 8001 → allS σ m l ≤ 8001
  | [], _, h => h
  | n :: l, m, h => by unfold allS; rw [List.foldl_cons]; exact zi3 (l := l) (zmz h)
theorem z7n {σ : Int → Option Tm} {l : List Int} {m : Nat} {n : Int} : allS σ m (l ++ [n]) = addN σ (allS σ m l) n := by unfold allS; rw [List.foldl_append]; rfl
abbrev seven (n : Int) (t : Tm) (a : Option Addr) (c : Nat) : List Value := .int .i64 n :: six t a c
structure RepB7 (H : Heap) (B : List (Int × Tm)) (a : Option Addr) (c : Nat) : Prop where
  len : B.length ≤ c
  cap : c ≤ maxLen
  el : ∀ (i : Nat) (h : i < B.length), ∃ b o a' c', a = some ⟨b, o, none⟩ ∧ H.load ⟨b, o + i * 7, none⟩ 7 = some (seven B[i].1 B[i].2 a' c') ∧ RepT H B[i].2 (six B[i].2 a' c')
theorem RepB7.mono {H H' : Heap} {B : List (Int × Tm)} {a : Option Addr} {c : Nat} (h : RepB7 H B a c) (hx : HX H H') (hw : H.wf) : RepB7 H' B a c :=
  ⟨h.len, h.cap, fun i hi => by obtain ⟨b, o, a', c', e, l, r⟩ := h.el i hi; exact ⟨b, o, a', c', e, hx.load hw l, r.mono hx hw⟩⟩
def PutOk (t : Tm) (B : List (Int × Tm)) : Prop :=
  checkS t = 0 ∧ (∀ (i : Nat) (hi : i < B.length), 0 ≤ B[i].1 ∧ lookT (B.take i) B[i].1 = none ∧ checkS B[i].2 = 0) ∧ allS (lookT B) (cnt t 0) (occ t) ≤ 4000
theorem row1 {H : Heap} {p : Nat} {T : TypeId} {v : Value} (h : H.get p = some (.row [v] T)) : H.load ⟨p, 0, none⟩ 1 = some [v] := by simp only [Heap.load, Heap.cells, h]; rfl
set_option maxHeartbeats 2000000 in
theorem zk1 {H0 H : Heap} {B : List (Int × Tm)} {p r : Nat} {n : Int} (gp : H.get p = some (.row [.map (some r)] 93)) (hm : MapT H0 H r B) (hx0 : HX H0 H) (hw0 : H0.wf) :
    EvF Tryd.prog okT 71 [.int .i64 n, .pointer (some ⟨p, 0, none⟩)] H fun v H' => HX H H' ∧ ((∃ u cs, lookT B n = some u ∧ v = .tuple #[.agg ⟨cs⟩, .bool true] ∧ RepT H' u cs) ∨ (lookT B n = none ∧ v = .tuple #[.agg ⟨zero6⟩, .bool false])) := by
  have hw := hx0.wf
  refine EvF.enter rfl Tryd.func71 (by decide) rfl ?_
  have lp := hw _ _ gp
  (repeat refine EvC.seq ?_); refine EvC.reg ?_; simp (config := { maxSteps := 2000000 }) (disch := first | omega | rfl) only [sA, initTm, dAlloc, zr26]
  obtain ⟨H2, e2, hx2, g2, hn2, hw2⟩ := new1 hw (.row zero6 26)
  simp only [e2]
  clear e2
  have l2 := row1 (hx2.get hw gp)
  obtain ⟨M, hM, hMn⟩ := hm.keep hx2 hw
  rcases z5c (lookT B n) with ⟨u, hl⟩ | hl
  · skip
    obtain ⟨cs, hg, hr⟩ := (hMn n).1 u hl
    obtain ⟨a1, c1, cells1, rfl, -⟩ := hr.six
    (repeat refine EvC.seq ?_); refine EvC.reg ?_; simp (config := { maxSteps := 2000000 }) (disch := first | omega | rfl) only [sB, dAlloc, Nat.reduceEqDiff, Nat.reduceAdd, one, reduceCtorEq, zr26, ld93, st26, l2, z10, z43 z7m hM hg]
    obtain ⟨H3, e3, hx3, g3, hn3, hw3⟩ := z0u hw2 (.row zero6 26) (.row (six u a1 c1) 26)
    simp only [e3]
    clear e3
    have g23 := hx3.get hw2 g2
    have q3 := row6 g3
    repeat' (first | refine EvC.seq ?_ | refine EvC.scope ?_ | refine EvC.block ?_ | (refine EvC.skip ?_) | (refine EvC.exit ?_) | (refine EvC.ret ?_; try simp only [z01, z00]) | (refine EvC.reg ?_; simp (config := { maxSteps := 2000000 }) (disch := first | omega | rfl) only [sB, Nat.reduceEqDiff, Nat.reduceAdd, one, reduceCtorEq, st26, ld26, q3, g23]))
    have hx4 := (hx2.trans hx3).pt (Nat.le_refl _) g23 (some (.row (six u a1 c1) 26))
    exact z0b rfl (by simp only [sB, Nat.reduceEqDiff, reduceCtorEq] <;> rfl) (by simp only [sB, Nat.reduceAdd, cutC, ld26] <;> rfl) (by simp only [sG, Nat.reduceEqDiff, reduceCtorEq] <;> rfl) ⟨hx4, .inl ⟨u, _, hl, rfl, hr.mono (hx0.trans hx4) hw0⟩⟩
  · skip
    have hg := (hMn n).2 hl
    (repeat refine EvC.seq ?_); refine EvC.reg ?_; simp (config := { maxSteps := 2000000 }) (disch := first | omega | rfl) only [sB, dAlloc, Nat.reduceEqDiff, Nat.reduceAdd, one, reduceCtorEq, zr26, ld93, st26, l2, z10, z50 z7m hM hg]
    obtain ⟨H3, e3, hx3, g3, hn3, hw3⟩ := z0u hw2 (.row zero6 26) (.row zero6 26)
    simp only [e3]
    clear e3
    have g23 := hx3.get hw2 g2
    have q3 := row6 g3
    repeat' (first | refine EvC.seq ?_ | refine EvC.scope ?_ | refine EvC.block ?_ | (refine EvC.skip ?_) | (refine EvC.exit ?_) | (refine EvC.ret ?_; try simp only [z01, z00]) | (refine EvC.reg ?_; simp (config := { maxSteps := 2000000 }) (disch := first | omega | rfl) only [sB, Nat.reduceEqDiff, Nat.reduceAdd, one, reduceCtorEq, st26, ld26, q3, g23]))
    have hx4 := (hx2.trans hx3).pt (Nat.le_refl _) g23 (some (.row zero6 26))
    exact z0b rfl (by simp only [sB, Nat.reduceEqDiff, reduceCtorEq] <;> rfl) (by simp only [sB, Nat.reduceAdd, cutC, ld26] <;> rfl) (by simp only [sG, Nat.reduceEqDiff, reduceCtorEq] <;> rfl) ⟨hx4, .inr ⟨hl, rfl⟩⟩
set_option maxHeartbeats 4000000 in
theorem zn0 {H0 H1 : Heap} {B : List (Int × Tm)} {p r q m : Nat} {tot : List Int} (gp : H1.get p = some (.row [.map (some r)] 93)) (hm : MapT H0 H1 r B) (hx0 : HX H0 H1) (hw0 : H0.wf) (hq : H1.next ≤ q) (hm8 : m ≤ 8001) :
    Each 70 #[.pointer (some ⟨p, 0, none⟩), .pointer (some ⟨q, 0, none⟩)] H1 tot fun S pre G => HX H1 G ∧ (∀ n, S n ↔ n = q) ∧ G.get q = some (.row [.int .i64 ((allS (lookT B) m pre : Nat) : Int)] 3) := by
  have hw1 := hx0.wf
  refine ⟨fun S pre H h => h.1, fun S pre H h n hn => ?_, fun S pre n H h _ => ?_, fun S pre H H' h hx => ⟨h.1.trans hx, h.2.1, hx.get h.1.wf h.2.2⟩⟩
  · rw [(h.2.1 n).1 hn]; exact h.1.wf _ _ h.2.2
  obtain ⟨hx, hS, gq⟩ := h
  have hw := hx.wf
  have lq := hw _ _ gq
  have hall := zi3 (σ := lookT B) (l := pre) hm8
  refine EvF.enter rfl Tryd.func70 (by decide) rfl ?_
  have l2 := row1 (hx.get hw1 gp)
  obtain ⟨M, hM, hMn⟩ := hm.keep hx hw1
  rcases z5c (lookT B n) with ⟨u, hl⟩ | hl
  · skip
    obtain ⟨cs, hg, hr⟩ := (hMn n).1 u hl
    obtain ⟨a1, c1, cells1, rfl, -⟩ := hr.six
    (repeat refine EvC.seq ?_); refine EvC.reg ?_; simp (config := { maxSteps := 2000000 }) (disch := first | omega | rfl) only [sB, initTm, dAlloc, Nat.reduceEqDiff, Nat.reduceAdd, one, reduceCtorEq, ld93, zr26, st26, l2, z10, z43 z7m hM hg]
    obtain ⟨H3, e3, hx3, g3, hn3, hw3⟩ := z0u hw (.row zero6 26) (.row (six u a1 c1) 26)
    simp only [e3]
    clear e3
    have gq3 := hx3.get hw gq
    have lq3 := row1 gq3
    have q3 := row6 g3
    by_cases h4 : allS (lookT B) m pre ≤ 4000
    · have hd : decide (((allS (lookT B) m pre : Nat) : Int) ≤ 4000) = true := decide_eq_true (by omega)
      (repeat refine EvC.seq ?_); refine EvC.reg ?_; simp (config := { maxSteps := 2000000 }) (disch := first | omega | rfl) only [sB, Nat.reduceEqDiff, reduceCtorEq, ld3, lq3, hd]
      (repeat refine EvC.seq ?_); refine EvC.condT (by simp (config := { maxSteps := 2000000 }) (disch := first | omega | rfl) only [sB, Nat.reduceEqDiff, reduceCtorEq]) ?_; (try refine EvC.skip ?_); (try simp only [z02, z09])
      repeat' (first | refine EvC.seq ?_ | refine EvC.scope ?_ | refine EvC.block ?_ | (refine EvC.skip ?_) | (refine EvC.exit ?_) | (refine EvC.ret ?_; try simp only [z01, z00]) | (refine EvC.drw [([(1, 0)], some 2), ([(0, 0), (3, 1), (4, 1)], some 5), ([], none)] ?_ ?_; kernel_rfl; simp (config := { maxSteps := 2000000 }) (disch := first | omega | rfl) only [sD, sB, Nat.reduceEqDiff, Nat.reduceAdd, reduceCtorEq, ld26, cl13, q3, isAlloc, isRead, reduceCtorEq]))
      have hb3 := hx3.bump 6
      refine (z2i u _ _ (hr.mono ((hx0.trans hx).trans hb3) hw0) hb3.wf).mono ?_
      rintro v H5 ⟨rfl, hx5⟩
      have gq5 := hx5.get hb3.wf (show Heap.get ⟨H3.next + 6, H3.t⟩ q = _ from gq3)
      have lq5 := row1 gq5
      have hc1 := zml u
      have hc2 := z9i u
      have hw2 : IntKind.i64.wrap (((cnt u 0 : Nat) : Int) - 1) = ((cnt u 0 - 1 : Nat) : Int) := by rw [z05 (by omega) (by omega)]; omega
      have hw3 : IntKind.i64.wrap (((allS (lookT B) m pre : Nat) : Int) + ((cnt u 0 - 1 : Nat) : Int)) = ((addN (lookT B) (allS (lookT B) m pre) n : Nat) : Int) := by
        unfold addN; simp only [hl, if_pos h4]; rw [z05 (by omega) (by omega)]; omega
      repeat' (first | refine EvC.seq ?_ | refine EvC.scope ?_ | refine EvC.block ?_ | (refine EvC.skip ?_) | (refine EvC.exit ?_) | (refine EvC.ret ?_; try simp only [z01, z00]) | (refine z0h ?_; simp (config := { maxSteps := 2000000 }) (disch := first | omega | rfl) only [sD, sB, Nat.reduceEqDiff, one, reduceCtorEq, ld3, st3, lq3, lq5, gq5, hw2, hw3, isAlloc, isRead, reduceCtorEq, zgq]))
      have hxx := hb3.trans hx5
      refine z0l rfl ⟨fun n => n = q, ⟨(hx.trans hxx).then ((HK.refl (S := fun n => n = q) hxx.wf).put (.inl rfl) (Nat.lt_of_lt_of_le lq hxx.next) _) (by intro k hk e; have e' : k = q := e; omega), fun n => Iff.rfl, by rw [get_put, if_pos rfl, z7n]⟩, ?_, fun k hk => .inl ((hS k).2 hk)⟩
      exact ((hxx.hk S)).put (.inl ((hS q).2 rfl)) (Nat.lt_of_lt_of_le lq hxx.next) _
    · have hd : decide (((allS (lookT B) m pre : Nat) : Int) ≤ 4000) = false := decide_eq_false (by omega)
      repeat' (first | refine EvC.seq ?_ | refine EvC.scope ?_ | refine EvC.block ?_ | (refine EvC.skip ?_) | (refine EvC.exit ?_) | (refine EvC.ret ?_; try simp only [z01, z00]) | (refine EvC.reg ?_; simp (config := { maxSteps := 2000000 }) (disch := first | omega | rfl) only [sB, Nat.reduceEqDiff, reduceCtorEq, ld3, lq3, hd]) | (refine EvC.condT ?_ ?_; simp (config := { maxSteps := 2000000 }) (disch := first | omega | rfl) only [sB, Nat.reduceEqDiff, reduceCtorEq]; refine z03 ?_) | (refine EvC.condF ?_ ?_; simp (config := { maxSteps := 2000000 }) (disch := first | omega | rfl) only [sB, Nat.reduceEqDiff, reduceCtorEq]; refine z03 ?_))
      refine z0l rfl ⟨S, ⟨hx.trans hx3, hS, ?_⟩, hx3.hk _, fun n hn => .inl hn⟩
      rw [z7n]; unfold addN; simp only [hl, if_neg h4]; exact gq3
  · skip
    have hg := (hMn n).2 hl
    (repeat refine EvC.seq ?_); refine EvC.reg ?_; simp (config := { maxSteps := 2000000 }) (disch := first | omega | rfl) only [sB, initTm, dAlloc, Nat.reduceEqDiff, Nat.reduceAdd, one, reduceCtorEq, ld93, zr26, st26, l2, z10, z50 z7m hM hg]
    obtain ⟨H3, e3, hx3, g3, hn3, hw3⟩ := z0u hw (.row zero6 26) (.row zero6 26)
    simp only [e3]
    clear e3
    have gq3 := hx3.get hw gq
    repeat' (first | refine EvC.seq ?_ | refine EvC.scope ?_ | refine EvC.block ?_ | (refine EvC.skip ?_) | (refine EvC.exit ?_) | (refine EvC.ret ?_; try simp only [z01, z00]) | (refine EvC.reg ?_; simp (config := { maxSteps := 2000000 }) (disch := first | omega | rfl) only [sB, Nat.reduceEqDiff, reduceCtorEq, Bool.false_eq_true]) | (refine EvC.condT ?_ ?_; simp (config := { maxSteps := 2000000 }) (disch := first | omega | rfl) only [sB, Nat.reduceEqDiff, reduceCtorEq]; refine z03 ?_) | (refine EvC.condF ?_ ?_; simp (config := { maxSteps := 2000000 }) (disch := first | omega | rfl) only [sB, Nat.reduceEqDiff, reduceCtorEq]; refine z03 ?_))
    refine z0l rfl ⟨S, ⟨hx.trans hx3, hS, ?_⟩, hx3.hk _, fun n hn => .inl hn⟩
    rw [z7n]; unfold addN; simp only [hl]; exact gq3
end Go.Proofs.YtlllbkjiadcloaaDoor.hb
end

-- Pu3
section
namespace Go.Proofs.YtlllbkjiadcloaaDoor.hb
open Go Go.RowKit Go.Hb
variable {ok : Ok}
set_option maxRecDepth 10000
attribute [local irreducible] LX LG EL STG SOP SGO SGD SAL SRD SEF SEG SLK SCK ES
theorem zo8 {H0 H1 : Heap} {B : List (Int × Tm)} {p r : Nat} (gp : H1.get p = some (.row [.map (some r)] 93)) (hm : MapT H0 H1 r B) (hx0 : HX H0 H1) (hw0 : H0.wf) (hf : ∀ n u, lookT B n = some u → Fine u) :
    ByOpt 71 #[.pointer (some ⟨p, 0, none⟩)] (lookT B) fun G => HX H1 G :=
  ⟨fun n G _ hj hw => zk1 (hj.get hx0.wf gp) (hm.keep hj hx0.wf) (hx0.trans hj) hw0, fun G G' hj hx => hj.trans hx, hf⟩
abbrev zero7 : List Value := .int .i64 0 :: zero6
theorem row7 {H : Heap} {p : Nat} {T : TypeId} {x0 x1 x2 x3 x4 x5 x6 : Value} (h : H.get p = some (Blk.row [x0, x1, x2, x3, x4, x5, x6] T)) :
    H.load ⟨p, 0, none⟩ 1 = some [x0] ∧ H.load ⟨p, 1, none⟩ 6 = some [x1, x2, x3, x4, x5, x6] ∧ H.load ⟨p, 0, none⟩ 7 = some [x0, x1, x2, x3, x4, x5, x6] := by
  refine ⟨?_, ?_, ?_⟩ <;> simp only [Heap.load, Heap.cells, h] <;> rfl
theorem zn1 {B : List (Int × Tm)} {i : Nat} (h : i < B.length) : B.take (i + 1) = B.take i ++ [(B[i].1, B[i].2)] := by rw [← List.take_append_getElem h]
set_option maxHeartbeats 16000000 in
theorem zle {t : Tm} {cs : List Value} {B : List (Int × Tm)} {a : Option Addr} {c : Nat} {H : Heap} (r0 : RepT H t cs) (rb : RepB7 H B a c) (hw : H.wf) :
    EvF Tryd.prog okT 35 [.agg ⟨cs⟩, .slice a B.length c] H fun v H' => HX H H' ∧
      ((PutOk t B ∧ ∃ out, v = .tuple ⟨[.agg ⟨out⟩, .int .i64 0]⟩ ∧ RepS H' (Rg H.next H'.next) (subO (lookT B) t) out) ∨ (¬ PutOk t B ∧ ∃ e : Int, v = .tuple ⟨[.agg ⟨zero6⟩, .int .i64 e]⟩ ∧ e ≠ 0)) := by
  have hmx : B.length ≤ 9223372036854775807 := Nat.le_trans rb.len rb.cap
  obtain ⟨at_, ct, cellst, rfl, -, -, -, -, -, rlt⟩ := r0.six
  refine EvF.enter rfl Tryd.func35 (by decide) rfl ?_
  (repeat refine EvC.seq ?_); refine EvC.reg ?_; simp (config := { maxSteps := 2000000 }) (disch := first | omega | rfl) only [sB, initTm, dBox, dAlloc, Value.cells, one, reduceCtorEq, zr26]
  obtain ⟨A2, e2, hx2, gt, g4, hn2, hw2⟩ := new2 hw (.row (six t at_ ct) 26) (.row zero6 26)
  simp only [e2]
  clear e2
  (repeat refine EvC.seq ?_); refine EvC.reg ?_; simp (config := { maxSteps := 2000000 }) (disch := first | omega | rfl) only [sA, dAlloc, zr26]
  obtain ⟨A3, e3, hx3, g6, hn3, hw3⟩ := new1 hw2 (.row zero6 26)
  simp only [e3]
  clear e3
  have gt := hx3.get hw2 gt
  have g4 := hx3.get hw2 g4
  have hx := hx2.trans hx3
  rw [hn2] at g6 hn3
  have qt := row6 gt
  repeat' (first | refine EvC.seq ?_ | refine EvC.scope ?_ | refine EvC.block ?_ | (refine EvC.skip ?_) | (refine EvC.exit ?_) | (refine EvC.ret ?_; try simp only [z01, z00]) | (refine EvC.reg ?_; simp (config := { maxSteps := 2000000 }) (disch := first | omega | rfl) only [sB, Nat.reduceEqDiff, reduceCtorEq, ld26, cl15, qt]))
  refine (z2j t _ _ (r0.mono hx hw) hx.wf).mono ?_
  rintro v A4 ⟨rfl, k4⟩
  have gt := k4.get hx.wf gt
  have g4 := k4.get hx.wf g4
  have g6 := k4.get hx.wf g6
  have hx := hx.trans k4
  have n4 := k4.next
  have q6 := row6 g6
  have ne46 : (H.next + 1 = H.next + 2) = False := by simp
  by_cases h0 : checkS t = 0
  rotate_left
  · rw [hn2] at *
    repeat' (first | refine EvC.seq ?_ | refine EvC.scope ?_ | refine EvC.block ?_ | (refine EvC.skip ?_) | (refine EvC.exit ?_) | (refine EvC.ret ?_; try simp only [z01, z00]) | (refine EvC.reg ?_; simp (config := { maxSteps := 2000000 }) (disch := first | omega | rfl) only [sB, Nat.reduceEqDiff, Nat.reduceAdd, one, reduceCtorEq, ld26, st26, z31 h0, q6, g4]) | (refine EvC.condT ?_ ?_; simp (config := { maxSteps := 2000000 }) (disch := first | omega | rfl) only [sB, Nat.reduceEqDiff, reduceCtorEq]; refine z03 ?_))
    refine z0b rfl (by simp only [sB, Nat.reduceEqDiff, reduceCtorEq] <;> rfl) (by simp only [sB, Nat.reduceAdd, cutC, ld26] <;> rfl) (by simp only [sG, Nat.reduceEqDiff, reduceCtorEq] <;> rfl) ⟨hx.pt (by omega) g4 _, .inr ⟨fun h => h0 h.1, _, rfl, h0⟩⟩
  rw [hn2] at *
  repeat' (first | refine EvC.seq ?_ | refine EvC.scope ?_ | refine EvC.block ?_ | (refine EvC.skip ?_; try simp only [z02]) | (refine EvC.exit ?_) | (refine EvC.ret ?_; try simp only [z01, z00]) | (refine EvC.reg ?_; simp (config := { maxSteps := 2000000 }) (disch := first | omega | rfl) only [sB, dAlloc, Nat.reduceEqDiff, one, reduceCtorEq, zr93, st93, ln57, z17 h0, z4m]) | (refine EvC.condT ?_ ?_; simp (config := { maxSteps := 2000000 }) (disch := first | omega | rfl) only [sB, Nat.reduceEqDiff, reduceCtorEq]; refine z03 ?_) | (refine EvC.condF ?_ ?_; simp (config := { maxSteps := 2000000 }) (disch := first | omega | rfl) only [sB, Nat.reduceEqDiff, reduceCtorEq]; refine z03 ?_))
  obtain ⟨A5, e5, k5, gr, n5, w5⟩ := new1 hx.wf (.map [] 0)
  obtain ⟨A6, e6, k6, gp, n6, w6⟩ := z0u w5 (.row [.map none] 93) (.row [.map (some A4.next)] 93)
  rw [n5] at e6 gp
  simp only [e5, e6]
  have gr := k6.get w5 gr
  have k56 := k5.trans k6
  have gt := k56.get hx.wf gt
  have g4 := k56.get hx.wf g4
  have g6 := k56.get hx.wf g6
  have hr4 := hx.next
  have hx := hx.trans k56
  clear e5 e6 k5 k6 k56
  have hpr : A4.next + 1 ≠ A4.next := by omega
  have hm0 : MapT H A6 A4.next (B.take 0) := ⟨[], ⟨[], 0, gr, rfl⟩, fun n => ⟨fun u hu => by simp [lookT] at hu, fun _ => rfl⟩⟩
  have hr5 : H.next + 3 ≤ A4.next := by omega
  have hp5 : H.next + 3 ≤ A4.next + 1 := by omega
  generalize A4.next + 1 = p at *
  generalize A4.next = r at *
  clear n4 n5 n6 gr hr4 hn3 hn2 k4 qt q6 hx2 hx3 hw2 hw3 w5
  refine EvC.loop (fun k st => ∃ tm H' i, st = ⟨tm, [], H'⟩ ∧ k = B.length - i ∧ i ≤ B.length ∧ tm.get 2 = some (.pointer (some ⟨H.next, 0, none⟩)) ∧ tm.get 4 = some (.pointer (some ⟨H.next + 1, 0, none⟩)) ∧ tm.get 6 = some (.pointer (some ⟨H.next + 2, 0, none⟩)) ∧ tm.get 8 = some (.pointer (some ⟨p, 0, none⟩)) ∧
    tm.get 22 = some (.slice a B.length c) ∧ tm.get 23 = some (.int .i64 B.length) ∧ tm.get 24 = some (.int .i64 (i : Nat)) ∧ H'.get H.next = some (.row (six t at_ ct) 26) ∧ H'.get (H.next + 1) = some (.row zero6 26) ∧ H'.get (H.next + 2) = some (.row zero6 26) ∧
    H'.get p = some (.row [.map (some r)] 93) ∧ MapT H H' r (B.take i) ∧ (∀ (j : Nat) (hj : j < B.length), j < i → 0 ≤ B[j].1 ∧ lookT (B.take j) B[j].1 = none ∧ checkS B[j].2 = 0) ∧ HX H H') ?_ B.length _ ?_
  rotate_left
  · exact ⟨_, _, 0, rfl, rfl, Nat.zero_le _, (by simp only [sG, Nat.reduceEqDiff, reduceCtorEq] <;> rfl), (by simp only [sG, Nat.reduceEqDiff, reduceCtorEq] <;> rfl), (by simp only [sG, Nat.reduceEqDiff, reduceCtorEq] <;> rfl), (by simp only [sG, Nat.reduceEqDiff, reduceCtorEq] <;> rfl), (by simp only [sG, Nat.reduceEqDiff, reduceCtorEq] <;> rfl), (by simp only [sG, Nat.reduceEqDiff, reduceCtorEq] <;> rfl), (by simp only [sB, Nat.reduceEqDiff, reduceCtorEq] <;> rfl), gt, g4, g6, gp, hm0, fun j hj h => by omega, hx⟩
  clear gt g4 g6 gp hm0 hx w6
  rintro k st ⟨tm, A, i, rfl, rfl, hi, t2, t4, t6, t8, t22, t23, t24, gt, g4, g6, gp, hm, hok, hx⟩
  have hwA := hx.wf
  have q6 := row6 g6
  have qt := row6 gt
  by_cases hlt : i < B.length
  · obtain ⟨b, o, a1, c1, rfl, hld, hrb⟩ := rb.el i hlt
    have hld := hx.load hw hld
    (repeat refine EvC.seq ?_); refine EvC.reg ?_; simp (config := { maxSteps := 2000000 }) (disch := first | omega | rfl) only [sA, t23, t24, decl hlt]
    (repeat refine EvC.seq ?_); refine EvC.condT (by simp (config := { maxSteps := 2000000 }) (disch := first | omega | rfl) only [sB]) ?_; (try refine EvC.skip ?_); (try simp only [z02, z09])
    refine EvC.seq ?_
    refine EvC.block ?_
    (repeat refine EvC.seq ?_); refine EvC.reg ?_; simp (config := { maxSteps := 2000000 }) (disch := first | omega | rfl) only [sB, dAlloc, Nat.reduceEqDiff, Nat.reduceAdd, one, ia57, ld59, zr59, st59, t22, t24, hld]
    obtain ⟨A1, e1, k1, g10, n1, w1⟩ := z0u hwA (.row zero7 59) (.row (seven B[i].1 B[i].2 a1 c1) 59)
    simp only [e1]
    clear e1
    have q10 := row7 g10
    have lp := row1 (k1.get hwA gp)
    obtain ⟨M, hM, hMn⟩ := hm.keep k1 hwA
    have gt1 := k1.get hwA gt
    have g41 := k1.get hwA g4
    have g61 := k1.get hwA g6
    have gp1 := k1.get hwA gp
    rcases z5c (lookT (B.take i) B[i].1) with ⟨u, hl⟩ | hl
    · skip
      obtain ⟨csu, hg, hru⟩ := (hMn B[i].1).1 u hl
      obtain ⟨a2, c2, cells2, rfl, -⟩ := hru.six
      (repeat refine EvC.seq ?_); refine EvC.reg ?_; simp (config := { maxSteps := 2000000 }) (disch := first | omega | rfl) only [sB, dAlloc, Nat.reduceEqDiff, Nat.reduceAdd, one, zr26, st26, ld93, z8b, ld3, t8, lp, q10, z10, z43 z7m hM hg]
      obtain ⟨A3, e3, k3, g3, n3, w3⟩ := z0u w1 (.row zero6 26) (.row (six u a2 c2) 26)
      simp only [e3]
      clear e3
      have g43 := k3.get w1 g41
      have q63 := row6 (k3.get w1 g61)
      repeat' (first | refine EvC.seq ?_ | refine EvC.scope ?_ | refine EvC.block ?_ | (refine EvC.skip ?_) | (refine EvC.exit ?_) | (refine EvC.ret ?_; try simp only [z01, z00]) | (refine EvC.reg ?_; simp (config := { maxSteps := 2000000 }) (disch := first | omega | rfl) only [sB, Nat.reduceEqDiff, Nat.reduceAdd, one, ld26, st26, t4, t6, q63, g43]) | (refine EvC.condT ?_ ?_; simp (config := { maxSteps := 2000000 }) (disch := first | omega | rfl) only [sB, Nat.reduceEqDiff]; refine z03 ?_))
      refine z0b rfl (by simp only [sB, Nat.reduceEqDiff, t4] <;> rfl) (by simp only [sB, Nat.reduceAdd, cutC, ld26] <;> rfl) (by simp only [sB, Nat.reduceEqDiff] <;> rfl) ⟨((hx.trans k1).trans k3).pt (by omega) g43 _, .inr ⟨fun h => ?_, _, rfl, by decide⟩⟩
      have := (h.2.1 i hlt).2.1
      rw [hl] at this; cases this
    · skip
      have hg := (hMn B[i].1).2 hl
      (repeat refine EvC.seq ?_); refine EvC.reg ?_; simp (config := { maxSteps := 2000000 }) (disch := first | omega | rfl) only [sB, dAlloc, Nat.reduceEqDiff, Nat.reduceAdd, one, zr26, st26, ld93, z8b, ld3, t8, lp, q10, z10, z50 z7m hM hg]
      obtain ⟨A3, e3, k3, g3, n3, w3⟩ := z0u w1 (.row zero6 26) (.row zero6 26)
      simp only [e3]
      clear e3
      have g103 := k3.get w1 g10
      have q103 := row7 g103
      have g43 := k3.get w1 g41
      have g63 := k3.get w1 g61
      have q63 := row6 g63
      have hx3 := (hx.trans k1).trans k3
      by_cases hneg : B[i].1 < 0
      · repeat' (first | refine EvC.seq ?_ | refine EvC.scope ?_ | refine EvC.block ?_ | (refine EvC.skip ?_) | (refine EvC.exit ?_) | (refine EvC.ret ?_; try simp only [z01, z00]) | (refine EvC.reg ?_; simp (config := { maxSteps := 2000000 }) (disch := first | omega | rfl) only [sB, Nat.reduceEqDiff, Nat.reduceAdd, one, ld26, st26, z8b, ld3, t4, t6, q103, decide_eq_true hneg, q63, g43, Bool.false_eq_true]) | (refine EvC.condT ?_ ?_; simp (config := { maxSteps := 2000000 }) (disch := first | omega | rfl) only [sB, Nat.reduceEqDiff]; refine z03 ?_))
        refine z0b rfl (by simp only [sB, Nat.reduceEqDiff, t4] <;> rfl) (by simp only [sB, Nat.reduceAdd, cutC, ld26] <;> rfl) (by simp only [sB, Nat.reduceEqDiff] <;> rfl) ⟨hx3.pt (by omega) g43 _, .inr ⟨fun h => ?_, _, rfl, by decide⟩⟩
        have := (h.2.1 i hlt).1
        omega
      repeat' (first | refine EvC.seq ?_ | refine EvC.scope ?_ | refine EvC.block ?_ | (refine EvC.skip ?_; try simp only [z02]) | (refine EvC.exit ?_) | (refine EvC.ret ?_; try simp only [z01, z00]) | (refine EvC.reg ?_; simp (config := { maxSteps := 2000000 }) (disch := first | omega | rfl) only [sB, Nat.reduceEqDiff, ld26, cl15, z8b, ld3, zl1, q103, decide_eq_false hneg, Bool.false_eq_true]) | (refine EvC.condT ?_ ?_; simp (config := { maxSteps := 2000000 }) (disch := first | omega | rfl) only [sB, Nat.reduceEqDiff]; refine z03 ?_) | (refine EvC.condF ?_ ?_; simp (config := { maxSteps := 2000000 }) (disch := first | omega | rfl) only [sB, Nat.reduceEqDiff]; refine z03 ?_))
      refine (z2j _ _ _ (hrb.mono hx3 hw) hx3.wf).mono ?_
      rintro v A5 ⟨rfl, k5⟩
      have g105 := k5.get hx3.wf g103
      have q105 := row7 g105
      have g45 := k5.get hx3.wf g43
      have g65 := k5.get hx3.wf g63
      have q65 := row6 g65
      have hx5 := hx3.trans k5
      have k15 := (k1.trans k3).trans k5
      by_cases hc : checkS B[i].2 = 0
      rotate_left
      · repeat' (first | refine EvC.seq ?_ | refine EvC.scope ?_ | refine EvC.block ?_ | (refine EvC.skip ?_) | (refine EvC.exit ?_) | (refine EvC.ret ?_; try simp only [z01, z00]) | (refine EvC.reg ?_; simp (config := { maxSteps := 2000000 }) (disch := first | omega | rfl) only [sB, Nat.reduceEqDiff, Nat.reduceAdd, one, ld26, st26, t4, t6, z31 hc, q65, g45]) | (refine EvC.condT ?_ ?_; simp (config := { maxSteps := 2000000 }) (disch := first | omega | rfl) only [sB, Nat.reduceEqDiff]; refine z03 ?_))
        refine z0b rfl (by simp only [sB, Nat.reduceEqDiff, t4] <;> rfl) (by simp only [sB, Nat.reduceAdd, cutC, ld26] <;> rfl) (by simp only [sG, Nat.reduceEqDiff] <;> rfl) ⟨hx5.pt (by omega) g45 _, .inr ⟨fun h => hc (h.2.1 i hlt).2.2, _, rfl, hc⟩⟩
      have gp5 := k15.get hwA gp
      have lp5 := row1 gp5
      obtain ⟨K, hup, hm6⟩ := (hm.keep k15 hwA).push z7m hl hrb
      have hrl := hm.lt hwA
      have hrl5 : r < A5.next := Nat.lt_of_lt_of_le hrl k15.next
      repeat' (first | refine EvC.seq ?_ | refine EvC.scope ?_ | refine EvC.block ?_ | (refine EvC.skip ?_; try simp only [z02]) | (refine EvC.exit ?_) | (refine EvC.ret ?_; try simp only [z01, z00]) | (refine EvC.reg ?_; simp (config := { maxSteps := 2000000 }) (disch := first | omega | rfl) only [sB, Nat.reduceEqDiff, ld26, ld93, z8b, ld3, zl1, t8, t24, z17 hc, lp5, q105, z3f, hup, z05]) | (refine EvC.condT ?_ ?_; simp (config := { maxSteps := 2000000 }) (disch := first | omega | rfl) only [sB, Nat.reduceEqDiff]; refine z03 ?_) | (refine EvC.condF ?_ ?_; simp (config := { maxSteps := 2000000 }) (disch := first | omega | rfl) only [sB, Nat.reduceEqDiff]; refine z03 ?_))
      have gt5 := k15.get hwA gt
      exact ⟨B.length - (i + 1), by omega, _, _, i + 1, rfl, rfl, by omega, (by simp only [sG, Nat.reduceEqDiff, t2] <;> rfl), (by simp only [sG, Nat.reduceEqDiff, t4] <;> rfl), (by simp only [sG, Nat.reduceEqDiff, t6] <;> rfl), (by simp only [sG, Nat.reduceEqDiff, t8] <;> rfl), (by simp only [sG, Nat.reduceEqDiff, t22] <;> rfl), (by simp only [sG, Nat.reduceEqDiff, t23] <;> rfl), (by simp only [sB, Nat.reduceEqDiff] <;> rfl), by rw [get_put, if_neg (by omega)]; exact gt5, by rw [get_put, if_neg (by omega)]; exact g45, by rw [get_put, if_neg (by omega)]; exact g65,
        by rw [get_put, if_neg hpr]; exact gp5, by rw [zn1 hlt]; exact hm6, fun j hj hji => by
          by_cases e : j = i
          · subst e; exact ⟨by omega, hl, hc⟩
          · exact hok j hj (by omega), hx5.put (by omega) hrl5 _⟩
  · obtain rfl : i = B.length := by omega
    rw [List.take_length] at hm
    have hfine : ∀ n u, lookT B n = some u → Fine u := fun n u hu => by
      obtain ⟨j, hj, e⟩ := List.getElem_of_mem (z34 hu)
      have := (hok j hj hj).2.2
      rw [e] at this
      exact (z0p.1 this).2
    have hft := (z0p.1 h0)
    repeat' (first | refine EvC.seq ?_ | refine EvC.scope ?_ | refine EvC.block ?_ | (refine EvC.skip ?_) | (refine EvC.exit ?_; try simp only [sB]) | (refine EvC.ret ?_; try simp only [z01, z00]) | (refine EvC.reg ?_; simp (config := { maxSteps := 2000000 }) (disch := first | omega | rfl) only [sB, dAlloc, Nat.reduceEqDiff, ld26, cl13, zr3, t2, t23, t24, decn hlt, qt]) | (refine EvC.condT ?_ ?_; simp (config := { maxSteps := 2000000 }) (disch := first | omega | rfl) only [sB]; refine z03 ?_) | (refine EvC.condF ?_ ?_; simp (config := { maxSteps := 2000000 }) (disch := first | omega | rfl) only [sB]; refine z03 ?_))
    refine (z2i t _ _ (r0.mono hx hw) hx.wf).mono ?_
    rintro v A1 ⟨rfl, k1⟩
    have gt1 := k1.get hwA gt
    have g41 := k1.get hwA g4
    have g61 := k1.get hwA g6
    have gp1 := k1.get hwA gp
    have hm1 := hm.keep k1 hwA
    have hx1 := hx.trans k1
    try simp (config := { maxSteps := 2000000 }) (disch := first | omega | rfl) only [sB, one, st3]
    obtain ⟨A2, e2, k2, gq, n2, w2⟩ := z0u hx1.wf (.row [.int .i64 0] 3) (.row [.int .i64 ((cnt t 0 : Nat) : Int)] 3)
    simp only [e2]
    clear e2
    have qt2 := row6 (k2.get hx1.wf gt1)
    (repeat refine EvC.seq ?_); refine EvC.reg ?_; simp (config := { maxSteps := 2000000 }) (disch := first | omega | rfl) only [sB, Nat.reduceEqDiff, ld26, cl69, t2, t8, qt2, List.map_toArray]
    have E := zn0 (tot := occ t) (m := cnt t 0) gp1 hm1 hx1 hw (Nat.le_refl _) (by omega)
    refine (zhi hx1.wf (by kernel_rfl) E _ (Nat.lt_succ_self _) (r0.mono hx1 hw) (S := fun n => n = A1.next) (pre := []) ⟨k2, fun n => Iff.rfl, gq⟩ (by rw [List.nil_append]; exact List.prefix_refl _)).mono ?_
    rintro v A3 ⟨S3, ⟨k3, hS3, gq3⟩, -, -⟩
    rw [List.nil_append] at gq3
    have gt3 := k3.get hx1.wf gt1
    have g43 := k3.get hx1.wf g41
    have g63 := k3.get hx1.wf g61
    have q63 := row6 g63
    have qt3 := row6 gt3
    have lq3 := row1 gq3
    have hx3 := hx1.trans k3
    by_cases h4 : 4000 < allS (lookT B) (cnt t 0) (occ t)
    · have hd : decide (((allS (lookT B) (cnt t 0) (occ t) : Nat) : Int) > 4000) = true := decide_eq_true (by omega)
      repeat' (first | refine EvC.seq ?_ | refine EvC.scope ?_ | refine EvC.block ?_ | (refine EvC.skip ?_) | (refine EvC.exit ?_) | (refine EvC.ret ?_; try simp only [z01, z00]) | (refine EvC.reg ?_; simp (config := { maxSteps := 2000000 }) (disch := first | omega | rfl) only [sB, Nat.reduceEqDiff, Nat.reduceAdd, one, ld26, st26, ld3, t4, t6, lq3, hd, q63, g43]) | (refine EvC.condT ?_ ?_; simp (config := { maxSteps := 2000000 }) (disch := first | omega | rfl) only [sB, Nat.reduceEqDiff]; refine z03 ?_))
      refine z0b rfl (by simp only [sB, Nat.reduceEqDiff, t4] <;> rfl) (by simp only [sB, Nat.reduceAdd, cutC, ld26] <;> rfl) (by simp only [sB, Nat.reduceEqDiff] <;> rfl) ⟨hx3.pt (by omega) g43 _, .inr ⟨fun h => ?_, _, rfl, by decide⟩⟩
      have := h.2.2
      omega
    · have hd : decide (((allS (lookT B) (cnt t 0) (occ t) : Nat) : Int) > 4000) = false := decide_eq_false (by omega)
      repeat' (first | refine EvC.seq ?_ | refine EvC.scope ?_ | refine EvC.block ?_ | (refine EvC.skip ?_; try simp only [z02]) | (refine EvC.exit ?_) | (refine EvC.ret ?_; try simp only [z01, z00]) | (refine EvC.reg ?_; simp (config := { maxSteps := 2000000 }) (disch := first | omega | rfl) only [sB, Nat.reduceEqDiff, ld26, ld3, cl67, t2, t8, lq3, hd, qt3, List.map_toArray]) | (refine EvC.condT ?_ ?_; simp (config := { maxSteps := 2000000 }) (disch := first | omega | rfl) only [sB, Nat.reduceEqDiff]; refine z03 ?_) | (refine EvC.condF ?_ ?_; simp (config := { maxSteps := 2000000 }) (disch := first | omega | rfl) only [sB, Nat.reduceEqDiff]; refine z03 ?_))
      refine (zfk (by kernel_rfl) (zo8 gp1 hm1 hx1 hw hfine) (Nat.lt_succ_self _) (r0.mono hx3 hw) hft.2 k3 hx3.wf).mono ?_
      rintro v A5 ⟨out, rfl, hrep, k5⟩
      have g45 := k5.get hx3.wf g43
      obtain ⟨a5, c5, cells5, rfl, -⟩ := hrep.rep.six
      repeat' (first | refine EvC.seq ?_ | refine EvC.scope ?_ | refine EvC.block ?_ | (refine EvC.skip ?_) | (refine EvC.exit ?_) | (refine EvC.ret ?_; try simp only [z01, z00]) | (refine z0t ?_; simp (config := { maxSteps := 2000000 }) (disch := first | omega | rfl) only [sB, Nat.reduceAdd, one, st26, t4, g45]))
      refine z0b rfl (by simp only [sB, Nat.reduceEqDiff, t4] <;> rfl) (by simp only [sB, Nat.reduceAdd, cutC, ld26] <;> rfl) (by simp only [sG, Nat.reduceEqDiff] <;> rfl) ⟨(hx3.trans k5).pt (by omega) g45 _, .inl ⟨⟨h0, fun j hj => hok j hj hj, by omega⟩, _, rfl, ?_⟩⟩
      have n3 := hx3.next
      have l4 := hx3.wf _ _ g43
      refine hrep.to fun n hn hl => ?_
      have := hn.1
      exact ⟨by rw [get_put, if_neg (by omega)], ⟨by omega, hl⟩, hl⟩
end Go.Proofs.YtlllbkjiadcloaaDoor.hb
end

-- Pu4
section
namespace Go.Proofs.YtlllbkjiadcloaaDoor.hb
open Go Go.RowKit Go.Hb
variable {ok : Ok}
set_option maxRecDepth 10000
attribute [local irreducible] LX LG EL STG SOP SGO SGD SAL SRD SEF SEG SLK SCK ES
section
open Classical
mutual
noncomputable def matchS : Tm → Tm → List (Int × Tm) → Option (List (Int × Tm))
  | .mk k s u b v l, t, M => if k = 1 then (match lookT M v with | some old => if old = t then some M else none | none => some (M ++ [(v, t)]))
    else if k = t.kind ∧ s = t.name ∧ u = t.num ∧ b = t.bits ∧ l.length = t.args.length then matchL l t.args M else none
noncomputable def matchL : List Tm → List Tm → List (Int × Tm) → Option (List (Int × Tm))
  | [], _, M => some M
  | x :: l, m, M => match matchS x (m.headD x) M with
    | some M' => matchL l (m.drop 1) M'
    | none => none
end
theorem z35 {t u : Tm} {M : List (Int × Tm)} (h : t.kind = 1) : matchS t u M = match lookT M t.var with | some old => if old = u then some M else none | none => some (M ++ [(t.var, u)]) := by
  obtain ⟨k, s, w, b, v, l⟩ := t
  rw [matchS, if_pos (show k = 1 from h)]; rfl
def alike (t u : Tm) : Prop := t.kind = u.kind ∧ t.name = u.name ∧ t.num = u.num ∧ t.bits = u.bits ∧ t.args.length = u.args.length
theorem z5q {t u : Tm} {M : List (Int × Tm)} (h : t.kind ≠ 1) (ha : alike t u) : matchS t u M = matchL t.args u.args M := by
  obtain ⟨k, s, w, b, v, l⟩ := t
  have ha' : k = u.kind ∧ s = u.name ∧ w = u.num ∧ b = u.bits ∧ l.length = u.args.length := ha
  rw [matchS, if_neg (show ¬ k = 1 from h), if_pos ha']; rfl
theorem z36 {t u : Tm} {M : List (Int × Tm)} (h : t.kind ≠ 1) (ha : ¬ alike t u) : matchS t u M = none := by
  obtain ⟨k, s, w, b, v, l⟩ := t
  have ha' : ¬ (k = u.kind ∧ s = u.name ∧ w = u.num ∧ b = u.bits ∧ l.length = u.args.length) := ha
  rw [matchS, if_neg (show ¬ k = 1 from h), if_neg ha']
theorem zi4 {l m : List Tm} {i : Nat} {M : List (Int × Tm)} (h : i < l.length) (h' : i < m.length) : matchL (l.drop i) (m.drop i) M = match matchS l[i] m[i] M with
    | some M' => matchL (l.drop (i + 1)) (m.drop (i + 1)) M'
    | none => none := by
  rw [List.drop_eq_getElem_cons h, List.drop_eq_getElem_cons h', matchL]
  rfl
end
def FineB (M : List (Int × Tm)) : Prop := ∀ p ∈ M, Fine p.2
theorem FineB.snoc {M : List (Int × Tm)} {n : Int} {t : Tm} (h : FineB M) (ht : Fine t) : FineB (M ++ [(n, t)]) := fun p hp => by
  rcases List.mem_append.1 hp with hp | hp
  · exact h p hp
  · rw [List.mem_singleton.1 hp]; exact ht
set_option maxHeartbeats 16000000 in
theorem zn2 {H0 : Heap} {p f r : Nat} (hw0 : H0.wf) (hpr : p ≠ r) (hfr : f ≠ r) (hr : H0.next ≤ r) : ∀ (m : Nat) {t u : Tm} {cs cu : List Value} {M : List (Int × Tm)} {H : Heap}, SizeOf.sizeOf t < m → RepT H0 t cs → RepT H0 u cu → Fine t → Fine u → FineB M → HX H0 H →
    H.get p = some (.row [.map (some r)] 93) → H.get f = some (.row [.func (.func 80) #[] #[.pointer (some ⟨p, 0, none⟩), .pointer (some ⟨f, 0, none⟩)]] 35) → MapT H0 H r M →
    EvF Tryd.prog okT 80 [.agg ⟨cs⟩, .agg ⟨cu⟩, .pointer (some ⟨p, 0, none⟩), .pointer (some ⟨f, 0, none⟩)] H fun v H' => HK (· = r) H H' ∧
      ((∃ M', matchS t u M = some M' ∧ v = .bool true ∧ MapT H0 H' r M' ∧ FineB M') ∨ (matchS t u M = none ∧ v = .bool false)) := by
  have hcall : callable Tryd.prog 80 = true := by kernel_rfl
  intro m
  induction m with
  | zero => intro t u cs cu M H h; omega
  | succ m ih =>
  intro t u cs cu M H hsz r0 r1 hft hfu hfM hx0 gp gf hm
  have hw := hx0.wf
  have hrl := hm.lt hw
  obtain ⟨a, c, cells, rfl, -, -, -, -, -, rl⟩ := r0.six
  obtain ⟨a', c', cells', rfl, -, -, -, -, -, rl'⟩ := r1.six
  refine EvF.enter rfl Tryd.func80 (by decide) rfl ?_
  (repeat refine EvC.seq ?_); refine EvC.reg ?_; simp (config := { maxSteps := 2000000 }) (disch := first | omega | rfl) only [sB, initTm, dBox, Nat.reduceEqDiff, Nat.reduceAdd, Value.cells, one, reduceCtorEq]
  obtain ⟨H2, e2, hx2, gt, gu, hn2, hw2⟩ := new2 hw (.row (six t a c) 26) (.row (six u a' c') 26)
  simp only [e2]
  clear e2
  have q1 := row6 gt
  have q2 := row6 gu
  have gp2 := hx2.get hw gp
  have gf2 := hx2.get hw gf
  have lp := row1 gp2
  have hm2 := hm.keep hx2 hw
  by_cases k1 : t.kind = 1
  · (repeat refine EvC.seq ?_); refine EvC.reg ?_; simp (config := { maxSteps := 2000000 }) (disch := first | omega | rfl) only [sB, Nat.reduceEqDiff, reduceCtorEq, z0y, ld3, q1, z1p k1]
    (repeat refine EvC.seq ?_); refine EvC.condT (by simp (config := { maxSteps := 2000000 }) (disch := first | omega | rfl) only [sB, Nat.reduceEqDiff, reduceCtorEq]) ?_; (try refine EvC.skip ?_); (try simp only [z02, z09])
    obtain ⟨MM, hM, hMn⟩ := hm2
    rcases z5c (lookT M t.var) with ⟨old, hl⟩ | hl
    · skip
      obtain ⟨cso, hg, hro⟩ := (hMn t.var).1 old hl
      obtain ⟨a2, c2, cells2, rfl, -⟩ := hro.six
      (repeat refine EvC.seq ?_); refine EvC.reg ?_; simp (config := { maxSteps := 2000000 }) (disch := first | omega | rfl) only [sB, dAlloc, Nat.reduceEqDiff, Nat.reduceAdd, one, reduceCtorEq, ld3, ld93, z51, zr26, st26, lp, q1, z10, z43 z7m hM hg]
      obtain ⟨H3, e3, hx3, g3, hn3, hw3⟩ := z0u hw2 (.row zero6 26) (.row (six old a2 c2) 26)
      simp only [e3]
      clear e3
      have q3 := row6 g3
      have q23 := row6 (hx3.get hw2 gu)
      have hx03 := (hx0.trans hx2).trans hx3
      have hfo : Fine old := by
        have h1 := hfM _ (z34 hl)
        exact h1
      repeat' (first | refine EvC.seq ?_ | refine EvC.scope ?_ | refine EvC.block ?_ | (refine EvC.skip ?_; try simp only [z02]) | (refine EvC.exit ?_) | (refine EvC.ret ?_; try simp only [z01, z00]) | (refine EvC.reg ?_; simp (config := { maxSteps := 2000000 }) (disch := first | omega | rfl) only [sB, Nat.reduceEqDiff, reduceCtorEq, ld26, cl53, Bool.not_true, q3, q23]) | (refine EvC.condT ?_ ?_; simp (config := { maxSteps := 2000000 }) (disch := first | omega | rfl) only [sB, Nat.reduceEqDiff, reduceCtorEq]; refine z03 ?_) | (refine EvC.condF ?_ ?_; simp (config := { maxSteps := 2000000 }) (disch := first | omega | rfl) only [sB, Nat.reduceEqDiff, reduceCtorEq]; refine z03 ?_))
      refine (zjy (Nat.lt_succ_self _) (hro.mono hx03 hw0) (r1.mono hx03 hw0) hfo hfu hx03.wf).mono ?_
      rintro v H4 ⟨rfl, hx4⟩
      have hk := (((hx2.trans hx3).trans hx4).hk (· = r))
      by_cases he : old = u
      · have hz : ordT old u = 0 := by rw [he]; exact zbb u
        have hz' : (ordT old u == 0) = true := z1p hz
        repeat' (first | refine EvC.seq ?_ | refine EvC.scope ?_ | refine EvC.block ?_ | (refine EvC.skip ?_) | (refine EvC.exit ?_) | (refine EvC.ret ?_; try simp only [z01, z00]) | (refine z0t ?_; simp (config := { maxSteps := 2000000 }) (disch := first | omega | rfl) only [sB, Nat.reduceEqDiff, reduceCtorEq, hz']))
        exact z04 rfl (by simp only [sG, Nat.reduceEqDiff, reduceCtorEq] <;> rfl) ⟨hk, .inl ⟨M, by rw [z35 k1, hl]; simp only [he, if_true], rfl, hm.keep ((hx2.trans hx3).trans hx4) hw, hfM⟩⟩
      · have hz : ordT old u ≠ 0 := fun h => he (zbd _ (Nat.lt_succ_self _) hfo hfu (RepT.u64s hro) (RepT.u64s r1) h)
        have hz' : (ordT old u == 0) = false := z0x hz
        repeat' (first | refine EvC.seq ?_ | refine EvC.scope ?_ | refine EvC.block ?_ | (refine EvC.skip ?_) | (refine EvC.exit ?_) | (refine EvC.ret ?_; try simp only [z01, z00]) | (refine z0t ?_; simp (config := { maxSteps := 2000000 }) (disch := first | omega | rfl) only [sB, Nat.reduceEqDiff, reduceCtorEq, hz']))
        exact z04 rfl (by simp only [sG, Nat.reduceEqDiff, reduceCtorEq] <;> rfl) ⟨hk, .inr ⟨by rw [z35 k1, hl]; simp only [he, if_false], rfl⟩⟩
    · skip
      have hg := (hMn t.var).2 hl
      (repeat refine EvC.seq ?_); refine EvC.reg ?_; simp (config := { maxSteps := 2000000 }) (disch := first | omega | rfl) only [sB, dAlloc, Nat.reduceEqDiff, Nat.reduceAdd, one, reduceCtorEq, ld3, ld93, z51, zr26, st26, lp, q1, z10, z50 z7m hM hg]
      obtain ⟨H3, e3, hx3, g3, hn3, hw3⟩ := z0u hw2 (.row zero6 26) (.row zero6 26)
      simp only [e3]
      clear e3
      have q13 := row6 (hx3.get hw2 gt)
      have q23 := row6 (hx3.get hw2 gu)
      have lp3 := row1 (hx3.get hw2 gp2)
      have k23 := hx2.trans hx3
      obtain ⟨K, hup, hm4⟩ := (hm.keep k23 hw).push z7m hl r1
      repeat' (first | refine EvC.seq ?_ | refine EvC.scope ?_ | refine EvC.block ?_ | (refine EvC.skip ?_) | (refine EvC.exit ?_) | (refine EvC.ret ?_; try simp only [z01, z00]) | (refine EvC.reg ?_; simp (config := { maxSteps := 2000000 }) (disch := first | omega | rfl) only [sB, Nat.reduceEqDiff, reduceCtorEq, ld3, ld93, z51, ld26, Bool.not_false, lp3, q13, q23, z3f, hup]) | (refine EvC.condT ?_ ?_; simp (config := { maxSteps := 2000000 }) (disch := first | omega | rfl) only [sB, Nat.reduceEqDiff, reduceCtorEq]; refine z03 ?_))
      exact z04 rfl (by simp only [sG, Nat.reduceEqDiff, reduceCtorEq] <;> rfl) ⟨(k23.hk (fun x => x = r)).put (.inl rfl) (Nat.lt_of_lt_of_le hrl k23.next) _, .inl ⟨_, by rw [z35 k1, hl], rfl, hm4, hfM.snoc hfu⟩⟩
  have k0 : t.kind ≠ 1 := k1
  have hk2 := hx2.hk (· = r)
  by_cases k1 : t.kind = u.kind
  rotate_left
  · repeat' (first | refine EvC.seq ?_ | refine EvC.scope ?_ | refine EvC.block ?_ | (refine EvC.skip ?_; try simp only [z02]) | (refine EvC.exit ?_) | (refine EvC.ret ?_; try simp only [z01, z00]) | (refine EvC.reg ?_; simp (config := { maxSteps := 2000000 }) (disch := first | omega | rfl) only [sB, Nat.reduceEqDiff, reduceCtorEq, z0y, ld3, z0x k0, z31 k1, q1, q2]) | (refine EvC.condT ?_ ?_; simp (config := { maxSteps := 2000000 }) (disch := first | omega | rfl) only [sB, Nat.reduceEqDiff, reduceCtorEq]; refine z03 ?_) | (refine EvC.condF ?_ ?_; simp (config := { maxSteps := 2000000 }) (disch := first | omega | rfl) only [sB, Nat.reduceEqDiff, reduceCtorEq]; refine z03 ?_))
    exact z04 rfl (by simp only [sG, Nat.reduceEqDiff, reduceCtorEq] <;> rfl) ⟨hk2, .inr ⟨z36 k0 fun h => k1 h.1, rfl⟩⟩
  by_cases k2 : t.name = u.name
  rotate_left
  · repeat' (first | refine EvC.seq ?_ | refine EvC.scope ?_ | refine EvC.block ?_ | (refine EvC.skip ?_; try simp only [z02]) | (refine EvC.exit ?_) | (refine EvC.ret ?_; try simp only [z01, z00]) | (refine EvC.reg ?_; simp (config := { maxSteps := 2000000 }) (disch := first | omega | rfl) only [sB, Nat.reduceEqDiff, reduceCtorEq, z0y, ld3, z2h, ld9, z0x k0, z17 k1, q1, q2, z15, ze9 k2, Bool.not_false, Bool.false_eq_true]) | (refine EvC.condT ?_ ?_; simp (config := { maxSteps := 2000000 }) (disch := first | omega | rfl) only [sB, Nat.reduceEqDiff, reduceCtorEq]; refine z03 ?_) | (refine EvC.condF ?_ ?_; simp (config := { maxSteps := 2000000 }) (disch := first | omega | rfl) only [sB, Nat.reduceEqDiff, reduceCtorEq]; refine z03 ?_))
    exact z04 rfl (by simp only [sG, Nat.reduceEqDiff, reduceCtorEq] <;> rfl) ⟨hk2, .inr ⟨z36 k0 fun h => k2 h.2.1, rfl⟩⟩
  by_cases k3 : t.num = u.num
  rotate_left
  · repeat' (first | refine EvC.seq ?_ | refine EvC.scope ?_ | refine EvC.block ?_ | (refine EvC.skip ?_; try simp only [z02]) | (refine EvC.exit ?_) | (refine EvC.ret ?_; try simp only [z01, z00]) | (refine EvC.reg ?_; simp (config := { maxSteps := 2000000 }) (disch := first | omega | rfl) only [sB, Nat.reduceEqDiff, reduceCtorEq, z0y, ld3, z2h, ld9, z4d, z0x k0, z17 k1, q1, q2, z15, z27 k2, ze9 k3, Bool.not_false, Bool.not_true, Bool.false_eq_true]) | (refine EvC.condT ?_ ?_; simp (config := { maxSteps := 2000000 }) (disch := first | omega | rfl) only [sB, Nat.reduceEqDiff, reduceCtorEq]; refine z03 ?_) | (refine EvC.condF ?_ ?_; simp (config := { maxSteps := 2000000 }) (disch := first | omega | rfl) only [sB, Nat.reduceEqDiff, reduceCtorEq]; refine z03 ?_))
    exact z04 rfl (by simp only [sG, Nat.reduceEqDiff, reduceCtorEq] <;> rfl) ⟨hk2, .inr ⟨z36 k0 fun h => k3 h.2.2.1, rfl⟩⟩
  by_cases k4 : t.bits = u.bits
  rotate_left
  · repeat' (first | refine EvC.seq ?_ | refine EvC.scope ?_ | refine EvC.block ?_ | (refine EvC.skip ?_; try simp only [z02]) | (refine EvC.exit ?_) | (refine EvC.ret ?_; try simp only [z01, z00]) | (refine EvC.reg ?_; simp (config := { maxSteps := 2000000 }) (disch := first | omega | rfl) only [sB, Nat.reduceEqDiff, reduceCtorEq, z0y, ld3, z2h, ld9, z4d, z52, ld23, z0x k0, z17 k1, q1, q2, z15, z27 k2, z27 k3, z31 k4, Bool.not_true, Bool.false_eq_true]) | (refine EvC.condT ?_ ?_; simp (config := { maxSteps := 2000000 }) (disch := first | omega | rfl) only [sB, Nat.reduceEqDiff, reduceCtorEq]; refine z03 ?_) | (refine EvC.condF ?_ ?_; simp (config := { maxSteps := 2000000 }) (disch := first | omega | rfl) only [sB, Nat.reduceEqDiff, reduceCtorEq]; refine z03 ?_))
    exact z04 rfl (by simp only [sG, Nat.reduceEqDiff, reduceCtorEq] <;> rfl) ⟨hk2, .inr ⟨z36 k0 fun h => k4 h.2.2.2.1, rfl⟩⟩
  by_cases k6 : (t.args.length : Int) = u.args.length
  rotate_left
  · repeat' (first | refine EvC.seq ?_ | refine EvC.scope ?_ | refine EvC.block ?_ | (refine EvC.skip ?_; try simp only [z02]) | (refine EvC.exit ?_) | (refine EvC.ret ?_; try simp only [z01, z00]) | (refine EvC.reg ?_; simp (config := { maxSteps := 2000000 }) (disch := first | omega | rfl) only [sB, Nat.reduceEqDiff, reduceCtorEq, z0y, ld3, z2h, ld9, z4d, z52, ld23, z19, ld24, ln24, z0x k0, z17 k1, q1, q2, z15, z27 k2, z27 k3, z17 k4, z31 k6, Bool.not_true, Bool.false_eq_true]) | (refine EvC.condT ?_ ?_; simp (config := { maxSteps := 2000000 }) (disch := first | omega | rfl) only [sB, Nat.reduceEqDiff, reduceCtorEq]; refine z03 ?_) | (refine EvC.condF ?_ ?_; simp (config := { maxSteps := 2000000 }) (disch := first | omega | rfl) only [sB, Nat.reduceEqDiff, reduceCtorEq]; refine z03 ?_))
    exact z04 rfl (by simp only [sG, Nat.reduceEqDiff, reduceCtorEq] <;> rfl) ⟨hk2, .inr ⟨z36 k0 fun h => k6 (by rw [h.2.2.2.2]), rfl⟩⟩
  have hlen : t.args.length = u.args.length := by omega
  have hmx := rl.max
  have hyes : ∀ M, matchS t u M = matchL t.args u.args M := fun M => z5q k0 ⟨k1, k2, k3, k4, hlen⟩
  repeat' (first | refine EvC.seq ?_ | refine EvC.scope ?_ | refine EvC.block ?_ | (refine EvC.skip ?_; try simp only [z02]) | (refine EvC.exit ?_) | (refine EvC.ret ?_; try simp only [z01, z00]) | (refine EvC.reg ?_; simp (config := { maxSteps := 2000000 }) (disch := first | omega | rfl) only [sB, Nat.reduceEqDiff, reduceCtorEq, z0y, ld3, z2h, ld9, z4d, z52, ld23, z19, ld24, ln24, z0x k0, z17 k1, q1, q2, z15, z27 k2, z27 k3, z17 k4, z17 k6, Bool.not_true, Bool.false_eq_true]) | (refine EvC.condT ?_ ?_; simp (config := { maxSteps := 2000000 }) (disch := first | omega | rfl) only [sB, Nat.reduceEqDiff, reduceCtorEq]; refine z03 ?_) | (refine EvC.condF ?_ ?_; simp (config := { maxSteps := 2000000 }) (disch := first | omega | rfl) only [sB, Nat.reduceEqDiff, reduceCtorEq]; refine z03 ?_))
  refine EvC.loop (fun k st => ∃ tm H' i M', st = ⟨tm, [], H'⟩ ∧ k = t.args.length - i ∧ i ≤ t.args.length ∧ matchL (t.args.drop i) (u.args.drop i) M' = matchS t u M ∧
      tm.get 3 = some (.pointer (some ⟨f, 0, none⟩)) ∧ tm.get 4 = some (.pointer (some ⟨H.next, 0, none⟩)) ∧ tm.get 5 = some (.pointer (some ⟨H.next + 1, 0, none⟩)) ∧ tm.get 71 = some (.int .i64 t.args.length) ∧ tm.get 72 = some (.int .i64 (i : Nat)) ∧
      MapT H0 H' r M' ∧ FineB M' ∧ HK (· = r) H2 H') ?_ t.args.length _ ?_
  · rintro k st ⟨tm, H', i, M', rfl, rfl, hi, hml, t3, t4, t5, t71, t72, hm', hfM', hk'⟩
    have hw' := hk'.wf
    have hrn : ∀ n, n < H0.next → ¬ n = r := fun n hn q => by omega
    have hx' : HX H0 H' := (hx0.trans hx2).then hk' hrn
    have gt' := hk'.get hw2 gt (by omega)
    have gu' := hk'.get hw2 gu (by omega)
    have gp' := hk'.get hw2 gp2 hpr
    have gf' := hk'.get hw2 gf2 hfr
    have q1 := row6 gt'
    have q2 := row6 gu'
    have lf := row1 gf'
    by_cases hlt : i < t.args.length
    · have hlt' : i < u.args.length := by omega
      obtain ⟨b, o, a1, c1, rfl, hld, hr1⟩ := rl.el hlt
      obtain ⟨b', o', a2, c2, rfl, hld', hr2⟩ := rl'.el hlt'
      have hld1 := hx'.load hw0 hld
      have hld2 := hx'.load hw0 hld'
      have hb := (HX.refl hw').bump 13
      have hs := z1q (List.getElem?_eq_getElem hlt)
      repeat' (first | refine EvC.seq ?_ | refine EvC.scope ?_ | refine EvC.block ?_ | (refine EvC.skip ?_; try simp only [z02]) | (refine EvC.exit ?_) | (refine EvC.ret ?_; try simp only [z01, z00]) | (refine EvC.reg ?_; simp (config := { maxSteps := 2000000 }) (disch := first | omega | rfl) only [sB, Nat.reduceEqDiff, t71, t72, decl hlt]) | (refine EvC.drw [([(0, 0), (1, 0), (2, 0), (3, 0), (4, 0), (5, 0), (6, 0), (7, 0), (8, 0), (9, 0), (10, 0)], some 11), ([(12, 1)], none)] ?_ ?_; kernel_rfl; simp (config := { maxSteps := 2000000 }) (disch := first | omega | rfl) only [sD, sB, Nat.reduceEqDiff, Nat.reduceAdd, reduceCtorEq, ld26, z19, ld24, ld35, ia24, t3, t4, t5, q1, q2, hld1, hld2, lf, z0o, z0f hcall, isAlloc, isRead, reduceCtorEq]) | (refine EvC.condT ?_ ?_; simp (config := { maxSteps := 2000000 }) (disch := first | omega | rfl) only [sB]; refine z03 ?_))
      refine (ih (t := t.args[i]) (u := u.args[i]) (M := M') (by omega) hr1 hr2 (hft.args _ (List.getElem_mem _)) (hfu.args _ (List.getElem_mem _)) hfM' (hx'.trans hb) gp' gf' (hm'.heap rfl)).mono ?_
      rintro v H4 ⟨hk4, h4⟩
      have hk24 : HK (· = r) H2 H4 := (hk'.bump 13).trans hk4
      rw [zi4 hlt hlt'] at hml
      rcases h4 with ⟨M4, e4, rfl, hm4, hf4⟩ | ⟨e4, rfl⟩
      · simp only [e4] at hml
        repeat' (first | refine EvC.seq ?_ | refine EvC.scope ?_ | refine EvC.block ?_ | (refine EvC.skip ?_; try simp only [sA]) | (refine EvC.exit ?_) | (refine EvC.ret ?_; try simp only [z01, z00]) | (refine EvC.reg ?_; simp (config := { maxSteps := 2000000 }) (disch := first | omega | rfl) only [sB, Nat.reduceEqDiff, t72, z05]) | (refine z0h ?_; simp (config := { maxSteps := 2000000 }) (disch := first | omega | rfl) only [sD, sB, Nat.reduceEqDiff, Bool.not_true, isAlloc, isRead]) | (refine EvC.condT ?_ ?_; simp (config := { maxSteps := 2000000 }) (disch := first | omega | rfl) only [sB, Nat.reduceEqDiff]; refine z03 ?_) | (refine EvC.condF ?_ ?_; simp (config := { maxSteps := 2000000 }) (disch := first | omega | rfl) only [sB, Nat.reduceEqDiff]; refine z03 ?_))
        exact ⟨t.args.length - (i + 1), by omega, _, _, i + 1, M4, rfl, rfl, by omega, hml, (by simp only [sG, Nat.reduceEqDiff, t3] <;> rfl), (by simp only [sG, Nat.reduceEqDiff, t4] <;> rfl), (by simp only [sG, Nat.reduceEqDiff, t5] <;> rfl), (by simp only [sG, Nat.reduceEqDiff, t71] <;> rfl), (by simp only [sB, Nat.reduceEqDiff] <;> rfl), hm4, hf4, hk24⟩
      · simp only [e4] at hml
        repeat' (first | refine EvC.seq ?_ | refine EvC.scope ?_ | refine EvC.block ?_ | (refine EvC.skip ?_) | (refine EvC.exit ?_) | (refine EvC.ret ?_; try simp only [z01, z00]) | (refine EvC.reg ?_; simp (config := { maxSteps := 2000000 }) (disch := first | omega | rfl) only [sA]) | (refine z0h ?_; simp (config := { maxSteps := 2000000 }) (disch := first | omega | rfl) only [sD, sB, Nat.reduceEqDiff, Bool.not_false, isAlloc, isRead]) | (refine EvC.condT ?_ ?_; simp (config := { maxSteps := 2000000 }) (disch := first | omega | rfl) only [sB, Nat.reduceEqDiff]; refine z03 ?_))
        exact z04 rfl (by simp only [sG, Nat.reduceEqDiff] <;> rfl) ⟨hk2.trans hk24, .inr ⟨hml.symm, rfl⟩⟩
    · obtain rfl : i = t.args.length := by omega
      repeat' (first | refine EvC.seq ?_ | refine EvC.scope ?_ | refine EvC.block ?_ | (refine EvC.skip ?_) | (refine EvC.exit ?_; try simp only [sB]) | (refine EvC.ret ?_; try simp only [z01, z00]) | (refine EvC.reg ?_; simp (config := { maxSteps := 2000000 }) (disch := first | omega | rfl) only [sA, t71, t72, decn hlt]) | (refine EvC.condT ?_ ?_; simp (config := { maxSteps := 2000000 }) (disch := first | omega | rfl) only [sB]; refine z03 ?_) | (refine EvC.condF ?_ ?_; simp (config := { maxSteps := 2000000 }) (disch := first | omega | rfl) only [sB]; refine z03 ?_))
      rw [List.drop_of_length_le (Nat.le_refl _), matchL] at hml
      exact z04 rfl (by simp only [sG, Nat.reduceEqDiff] <;> rfl) ⟨hk2.trans hk', .inl ⟨M', hml.symm, rfl, hm', hfM'⟩⟩
  · exact ⟨_, _, 0, M, rfl, rfl, Nat.zero_le _, by rw [List.drop_zero, List.drop_zero, hyes], (by simp only [sG, Nat.reduceEqDiff, reduceCtorEq] <;> rfl), (by simp only [sG, Nat.reduceEqDiff, reduceCtorEq] <;> rfl), (by simp only [sG, Nat.reduceEqDiff, reduceCtorEq] <;> rfl), (by simp only [sG, Nat.reduceEqDiff, reduceCtorEq] <;> rfl), (by simp only [sB, Nat.reduceEqDiff, reduceCtorEq] <;> rfl), hm2, hfM, HK.refl hw2⟩
end Go.Proofs.YtlllbkjiadcloaaDoor.hb
end

-- So3a
section
namespace Go.Hb
open Go Go.RowKit
theorem gtl {i n : Nat} (h : n < i) : decide ((i : Int) > (n : Int)) = true := decide_eq_true (by omega)
theorem gtn {i n : Nat} (h : ¬ n < i) : decide ((i : Int) > (n : Int)) = false := decide_eq_false (by omega)
theorem HK.hxs {S : Nat → Prop} {A B C : Heap} (h : HK S A B) (k : HX B C) : HK S A C := h.trans (k.hk S)
theorem HK.two {b : Nat} {A H : Heap} (h : HK (· = b) A H) (hb : b < H.next) (k : Nat) (B C : Option Blk) : HK (· = b) A (((⟨H.next + k, H.t⟩ : Heap).put b B).put b C) :=
  ((h.bump k).put (.inl rfl) (Nat.lt_add_right _ hb) B).put (.inl rfl) (Nat.lt_add_right _ hb) C
theorem zef {α : Type} {i j : Nat} {D : Nat → α} : swF i j D = swF j i D := by
  funext k; unfold swF
  by_cases h1 : k = i
  · subst h1
    rw [if_pos rfl]
    by_cases h2 : k = j
    · subst h2; rw [if_pos rfl]
    · rw [if_neg h2, if_pos rfl]
  · rw [if_neg h1]
    by_cases h2 : k = j
    · rw [if_pos h2, if_pos h2]
    · rw [if_neg h2, if_neg h2, if_neg h1]
def swrF {α : Type} (a b k : Nat) (D : Nat → α) : Nat → α := fun i => if a ≤ i ∧ i < a + k then D (i - a + b) else if b ≤ i ∧ i < b + k then D (i - b + a) else D i
end Go.Hb
end

-- Pd3
section
namespace Go.Proofs.YtlllbkjiadcloaaDoor.hb
open Go Go.RowKit Go.Hb
variable {ok : Ok}
set_option maxRecDepth 10000
attribute [local irreducible] LX LG EL STG SOP SGO SGD SAL SRD SEF SEG SLK SCK ES
theorem cz_t {a b : Int} (h : a < b) : decide (cmpZ a b < 0) = true := by rw [zck h]; rfl
theorem cz_f {a b : Int} (h : ¬ a < b) : decide (cmpZ a b < 0) = false := by
  by_cases e : b < a
  · rw [zcl e]; rfl
  · rw [zcm (by omega)]; rfl
abbrev cvB : Value := .func (.func 82) #[] #[]
theorem z2l : callable Tryd.prog 82 = true := by kernel_rfl
theorem z1t {x y : Bnd} {H : Heap} (hw : H.wf) : EvF Tryd.prog okT 82 [.agg ⟨x.seven⟩, .agg ⟨y.seven⟩] H fun v H' => v = .int .i64 (cmpZ x.v y.v) ∧ HX H H' := by
  refine EvF.enter rfl Tryd.func82 (by decide) rfl ?_
  (repeat refine EvC.seq ?_); refine EvC.reg ?_; simp (config := { maxSteps := 2000000 }) (disch := first | omega | rfl) only [sB, initTm, dBox, Nat.reduceEqDiff, Value.cells, one, reduceCtorEq]
  obtain ⟨H2, e2, hx2, gp, gq, hn2, hw2⟩ := new2 hw (.row x.seven 59) (.row y.seven 59)
  simp only [e2]
  have l1 : H2.load ⟨H.next, 0, none⟩ 1 = some [.int .i64 x.v] := by simp only [Heap.load, Heap.cells, gp]; rfl
  have l2 : H2.load ⟨H.next + 1, 0, none⟩ 1 = some [.int .i64 y.v] := by simp only [Heap.load, Heap.cells, gq]; rfl
  repeat' (first | refine EvC.seq ?_ | refine EvC.scope ?_ | refine EvC.block ?_ | (refine EvC.skip ?_) | (refine EvC.exit ?_) | (refine EvC.ret ?_; try simp only [z01, z00]) | (refine EvC.reg ?_; simp (config := { maxSteps := 2000000 }) (disch := first | omega | rfl) only [sB, Nat.reduceEqDiff, reduceCtorEq, z8b, ld3, cl83, l1, l2]))
  refine (z5m).mono ?_
  rintro v H3 ⟨rfl, rfl⟩
  repeat' (first | refine EvC.seq ?_ | refine EvC.scope ?_ | refine EvC.block ?_ | (refine EvC.skip ?_) | (refine EvC.exit ?_) | (refine EvC.ret ?_; try simp only [z01, z00]))
  exact z04 rfl (by simp only [sG, Nat.reduceEqDiff, reduceCtorEq] <;> rfl) ⟨rfl, hx2⟩
set_option maxHeartbeats 4000000 in
theorem z8j {b n c a e : Nat} {D : Nat → Bnd} {H : Heap} (hr : RowB H 59 b n D) (hn : n ≤ most) (h1 : a ≤ e) (h3 : e ≤ n) (hw : H.wf) :
    EvF Tryd.prog okT 113 [.slice (some ⟨b, 0, none⟩) n c, .int .i64 (a : Nat), .int .i64 (e : Nat), cvB] H fun _ H' =>
      ∃ D', RowB H' 59 b n D' ∧ Pm a e D D' ∧ InZ Bnd.v a e D' ∧ HK (· = b) H H' := by
  have hms : most ≤ 1048576 := by simp [most]
  have hg := z2l
  refine EvF.enter rfl Tryd.func113 (by decide) rfl ?_
  have hw1 : IntKind.i64.wrap ((a : Int) + 1) = ((a + 1 : Nat) : Int) := by rw [z05 (by omega) (by omega)]; omega
  repeat' (first | refine EvC.seq ?_ | refine EvC.scope ?_ | refine EvC.block ?_ | (refine EvC.skip ?_) | (refine EvC.exit ?_) | (refine EvC.ret ?_; try simp only [z01, z00]) | (refine EvC.reg ?_; simp (config := { maxSteps := 2000000 }) (disch := first | omega | rfl) only [sB, initTm, Nat.reduceEqDiff, Nat.reduceAdd, reduceCtorEq, hw1]))
  refine EvC.loop (fun k st => ∃ tm H' i D', st = ⟨tm, [], H'⟩ ∧ k = e - i ∧ a + 1 ≤ i ∧ tm.get 0 = some (.slice (some ⟨b, 0, none⟩) n c) ∧ tm.get 1 = some (.int .i64 (a : Nat)) ∧ tm.get 2 = some (.int .i64 (e : Nat)) ∧ tm.get 3 = some cvB ∧
    tm.get 8 = some (.int .i64 (i : Nat)) ∧ RowB H' 59 b n D' ∧ Pm a e D D' ∧ InZ Bnd.v a i D' ∧ HK (· = b) H H') ?_ (e - (a + 1)) _ ?_
  · rintro k st ⟨tm, H', i, D', rfl, rfl, hi, t0, t1, t2, t3, t8, hr', hm, ho, hk⟩
    by_cases hlt : i < e
    · (repeat refine EvC.seq ?_); refine EvC.reg ?_; simp (config := { maxSteps := 2000000 }) (disch := first | omega | rfl) only [sB, Nat.reduceEqDiff, t8, t2, decl hlt]
      (repeat refine EvC.seq ?_); refine EvC.condT (by simp (config := { maxSteps := 2000000 }) (disch := first | omega | rfl) only [sB, Nat.reduceEqDiff]) ?_; (try refine EvC.skip ?_); (try simp only [z02, z09])
      refine EvC.seq ?_
      refine EvC.block ?_
      (repeat refine EvC.seq ?_); refine EvC.reg ?_; simp (config := { maxSteps := 2000000 }) (disch := first | omega | rfl) only [sB, Nat.reduceEqDiff, t8]
      refine EvC.meet (fun st => ∃ tm H' D', st = ⟨tm, [], H'⟩ ∧ tm.get 0 = some (.slice (some ⟨b, 0, none⟩) n c) ∧ tm.get 1 = some (.int .i64 (a : Nat)) ∧ tm.get 2 = some (.int .i64 (e : Nat)) ∧ tm.get 3 = some cvB ∧
        tm.get 8 = some (.int .i64 (i : Nat)) ∧ RowB H' 59 b n D' ∧ Pm a e D D' ∧ InZ Bnd.v a (i + 1) D' ∧ HK (· = b) H H') ?_ ?_
      · refine EvC.block (EvC.loop (fun k st => ∃ tm H' j D', st = ⟨tm, [], H'⟩ ∧ k = j ∧ a ≤ j ∧ j ≤ i ∧ tm.get 0 = some (.slice (some ⟨b, 0, none⟩) n c) ∧ tm.get 1 = some (.int .i64 (a : Nat)) ∧ tm.get 2 = some (.int .i64 (e : Nat)) ∧ tm.get 3 = some cvB ∧
          tm.get 8 = some (.int .i64 (i : Nat)) ∧ tm.get 9 = some (.int .i64 (j : Nat)) ∧ RowB H' 59 b n D' ∧ Pm a e D D' ∧ (∀ p q, a ≤ p → p < q → q ≤ i → p ≠ j → q ≠ j → (D' p).v ≤ (D' q).v) ∧ (∀ q, j < q → q ≤ i → (D' j).v ≤ (D' q).v) ∧ HK (· = b) H H') ?_ i _ ?_)
        · rintro k st ⟨tm, H', j, D', rfl, rfl, hj, hji, t0, t1, t2, t3, t8, t9, hr', hm, ho1, ho2, hk⟩
          by_cases hja : a < k
          · obtain ⟨j, rfl⟩ : ∃ j, k = j + 1 := ⟨k - 1, by omega⟩
            have hw2 : IntKind.i64.wrap (((j + 1 : Nat) : Int) - 1) = ((j : Nat) : Int) := by rw [z05 (by omega) (by omega)]; omega
            have k1 : j + 1 < n := by omega
            have k2 : j < n := by omega
            have l1 := hr'.load k1
            have l2 := hr'.load k2
            have hb := hk.bump 17
            repeat' (first | refine EvC.seq ?_ | refine EvC.scope ?_ | refine EvC.block ?_ | (refine EvC.skip ?_) | (refine EvC.exit ?_) | (refine EvC.ret ?_; try simp only [z01, z00]) | (refine EvC.drw (id := 4) [([(0, 0), (1, 0), (2, 0), (3, 0), (4, 0), (5, 0), (6, 0), (7, 0), (8, 0), (9, 0), (10, 0), (11, 0), (12, 0), (13, 0)], some 14), ([(15, 1), (16, 1)], none)] ?_ ?_; kernel_rfl; simp (config := { maxSteps := 2000000 }) (disch := first | omega | rfl) only [sD, sB, Nat.reduceEqDiff, Nat.reduceAdd, reduceCtorEq, ia57, ld59, t0, t1, t3, t9, gtl hja, hw2, l1, l2, z0o, z0f hg, isAlloc, isRead, reduceCtorEq]))
            obtain ⟨cells0, hg0, -, -⟩ := hr'.row
            have hbl := hk.wf _ _ hg0
            refine (z1t hb.wf).mono ?_
            rintro v H2 ⟨rfl, hx2⟩
            have hk2 := hb.hxs hx2
            have r2 := hr'.heap (H' := H2) (by rw [hx2.keep b (Nat.lt_add_right _ hbl)]; rfl)
            by_cases hc : (D' (j + 1)).v < (D' j).v
            · have l1 := r2.load k1
              have l2 := r2.load k2
              obtain ⟨cells, hg2, hl, he⟩ := r2.row
              have hbl2 := hk2.wf _ _ hg2
              have le1 : (j + 1) * 7 + 7 ≤ cells.length := by have := mul7 k1; omega
              have le2 : j * 7 + 7 ≤ cells.length := by have := mul7 k2; omega
              have hsw := fun H2 h2 => RowB.swap (H := H') (b := b) (T := 59) hl he k1 k2 H2 h2
              have ms := Pm.swap (a := a) (b := e) (i := j) (j := j + 1) (D := D') (by omega) (by omega) (by omega) (by omega)
              rw [zef] at hsw
              have o1 : ∀ p q, a ≤ p → p < q → q ≤ i → p ≠ j → q ≠ j → (swF j (j + 1) D' p).v ≤ (swF j (j + 1) D' q).v := fun p q p1 p2 p3 p4 p5 => by
                unfold swF
                rw [if_neg p4, if_neg p5]
                by_cases e1 : p = j + 1
                · rw [if_pos e1, if_neg (by omega)]; exact ho1 j q (by omega) (by omega) p3 (by omega) (by omega)
                · rw [if_neg e1]
                  by_cases e2 : q = j + 1
                  · rw [if_pos e2]; exact ho1 p j p1 (by omega) (by omega) e1 (by omega)
                  · rw [if_neg e2]; exact ho1 p q p1 p2 p3 e1 e2
              have o2 : ∀ q, j < q → q ≤ i → (swF j (j + 1) D' j).v ≤ (swF j (j + 1) D' q).v := fun q q1 q2 => by
                unfold swF
                rw [if_pos rfl, if_neg (by omega)]
                by_cases e2 : q = j + 1
                · rw [if_pos e2]; omega
                · rw [if_neg e2]; exact ho2 q (by omega) q2
              generalize hE1 : D' (j + 1) = E1 at *
              generalize hE2 : D' j = E2 at *
              have le3 : j * 7 + 7 ≤ (Hb.splice cells ((j + 1) * 7) E2.seven).length := by rw [z0e (vs := E2.seven) le1]; exact le2
              repeat' (first | refine EvC.seq ?_ | refine EvC.scope ?_ | refine EvC.block ?_ | (refine EvC.skip ?_; try simp only [z02]) | (refine EvC.exit ?_) | (refine EvC.ret ?_; try simp only [z01, z00]) | (refine EvC.reg ?_; simp (config := { maxSteps := 2000000 }) (disch := first | omega | rfl) only [sB, Nat.reduceEqDiff, t9, hw2]) | (refine EvC.drw (id := 6) [([(0, 0), (1, 0), (5, 0), (6, 0), (7, 0), (8, 0), (9, 0), (10, 0), (11, 0), (12, 0), (13, 0), (14, 0)], some 15), ([(2, 0), (3, 0), (4, 0), (16, 1)], some 17), ([], none)] ?_ ?_; kernel_rfl; simp (config := { maxSteps := 2000000 }) (disch := first | omega | rfl) only [sV, sD, sB, Nat.reduceEqDiff, Nat.reduceAdd, one, reduceCtorEq, ia57, ld59, st59, t0, t9, hw2, l1, l2, hg2, le1, le3, isAlloc, isRead, reduceCtorEq]) | (refine z0h ?_; simp (config := { maxSteps := 2000000 }) (disch := first | omega | rfl) only [sD, sB, Nat.reduceEqDiff, cz_t hc, isAlloc, isRead]) | (refine EvC.condT ?_ ?_; simp (config := { maxSteps := 2000000 }) (disch := first | omega | rfl) only [sB, Nat.reduceEqDiff]; refine z03 ?_))
              exact ⟨j, by omega, _, _, j, _, rfl, rfl, by omega, by omega, (by simp only [sG, reduceCtorEq, t0] <;> rfl), (by simp only [sG, Nat.reduceEqDiff, t1] <;> rfl), (by simp only [sG, Nat.reduceEqDiff, t2] <;> rfl), (by simp only [sG, Nat.reduceEqDiff, t3] <;> rfl), (by simp only [sG, Nat.reduceEqDiff, t8] <;> rfl), (by simp only [sG, Nat.reduceEqDiff] <;> rfl), hsw _ (by rw [get_put, if_pos rfl]), hm.trans ms, o1, o2, hk2.two hbl2 _ _ _⟩
            · repeat' (first | refine EvC.seq ?_ | refine EvC.scope ?_ | refine EvC.block ?_ | (refine EvC.skip ?_) | (refine EvC.exit ?_; try simp only [sB, reduceCtorEq]) | (refine EvC.ret ?_; try simp only [z01, z00]) | (refine z0h ?_; simp (config := { maxSteps := 2000000 }) (disch := first | omega | rfl) only [sD, sB, Nat.reduceEqDiff, cz_f hc, isAlloc, isRead]) | (refine EvC.condT ?_ ?_; simp (config := { maxSteps := 2000000 }) (disch := first | omega | rfl) only [sB, Nat.reduceEqDiff]; refine z03 ?_) | (refine EvC.condF ?_ ?_; simp (config := { maxSteps := 2000000 }) (disch := first | omega | rfl) only [sB, Nat.reduceEqDiff]; refine z03 ?_))
              exact ⟨_, _, D', rfl, (by simp only [sG, reduceCtorEq, t0] <;> rfl), (by simp only [sG, Nat.reduceEqDiff, t1] <;> rfl), (by simp only [sG, Nat.reduceEqDiff, t2] <;> rfl), (by simp only [sG, Nat.reduceEqDiff, t3] <;> rfl), (by simp only [sG, Nat.reduceEqDiff, t8] <;> rfl), r2, hm, fun p q p1 p2 p3 => by
                by_cases e1 : p = j + 1
                · subst e1; exact ho2 q p2 (by omega)
                · by_cases e2 : q = j + 1
                  · subst e2
                    by_cases e3 : p = j
                    · subst e3; omega
                    · exact Int.le_trans (ho1 p j p1 (by omega) (by omega) e1 (by omega)) (by omega)
                  · exact ho1 p q p1 p2 (by omega) e1 e2, hk2⟩
          · repeat' (first | refine EvC.seq ?_ | refine EvC.scope ?_ | refine EvC.block ?_ | (refine EvC.skip ?_) | (refine EvC.exit ?_; try simp only [sB, reduceCtorEq]) | (refine EvC.ret ?_; try simp only [z01, z00]) | (refine EvC.drw (id := 4) [([(0, 0), (1, 0), (2, 0), (3, 0), (4, 0), (5, 0), (6, 0), (7, 0), (8, 0), (9, 0), (10, 0), (11, 0), (12, 0), (13, 0)], some 14), ([(15, 1), (16, 1)], none)] ?_ ?_; kernel_rfl; simp (config := { maxSteps := 2000000 }) (disch := first | omega | rfl) only [sD, sB, Nat.reduceEqDiff, Nat.reduceAdd, t1, t9, gtn hja, Bool.false_eq_true, isAlloc, isRead]) | (refine EvC.condT ?_ ?_; simp (config := { maxSteps := 2000000 }) (disch := first | omega | rfl) only [sB, Nat.reduceEqDiff]; refine z03 ?_) | (refine EvC.condF ?_ ?_; simp (config := { maxSteps := 2000000 }) (disch := first | omega | rfl) only [sB, Nat.reduceEqDiff]; refine z03 ?_))
            obtain rfl : k = a := by omega
            exact ⟨_, _, D', rfl, (by simp only [sG, reduceCtorEq, t0] <;> rfl), (by simp only [sG, Nat.reduceEqDiff, t1] <;> rfl), (by simp only [sG, Nat.reduceEqDiff, t2] <;> rfl), (by simp only [sG, Nat.reduceEqDiff, t3] <;> rfl), (by simp only [sG, Nat.reduceEqDiff, t8] <;> rfl), hr'.heap rfl, hm, fun p q p1 p2 p3 => by
              by_cases e1 : p = k
              · subst e1; exact ho2 q p2 (by omega)
              · exact ho1 p q p1 p2 (by omega) e1 (by omega), hk.bump _⟩
        · exact ⟨_, _, i, D', rfl, rfl, by omega, Nat.le_refl _, (by simp only [sG, reduceCtorEq, t0] <;> rfl), (by simp only [sG, Nat.reduceEqDiff, t1] <;> rfl), (by simp only [sG, Nat.reduceEqDiff, t2] <;> rfl), (by simp only [sG, Nat.reduceEqDiff, t3] <;> rfl), (by simp only [sG, Nat.reduceEqDiff, t8] <;> rfl), (by simp only [sG, Nat.reduceEqDiff] <;> rfl), hr', hm, fun p q p1 p2 p3 p4 p5 => ho p q p1 p2 (by omega), fun q q1 q2 => by omega, hk⟩
      · rintro st ⟨tm, H', D', rfl, t0, t1, t2, t3, t8, hr', hm, ho, hk⟩
        have hw2 : IntKind.i64.wrap ((i : Int) + 1) = ((i + 1 : Nat) : Int) := by rw [z05 (by omega) (by omega)]; omega
        try simp (config := { maxSteps := 2000000 }) (disch := first | omega | rfl) only [sA]
        repeat' (first | refine EvC.seq ?_ | refine EvC.scope ?_ | refine EvC.block ?_ | (refine EvC.skip ?_) | (refine EvC.exit ?_) | (refine EvC.ret ?_; try simp only [z01, z00]) | (refine EvC.reg ?_; simp (config := { maxSteps := 2000000 }) (disch := first | omega | rfl) only [sB, Nat.reduceEqDiff, t8, hw2]))
        exact ⟨e - (i + 1), by omega, _, _, i + 1, D', rfl, rfl, by omega, (by simp only [sG, reduceCtorEq, t0] <;> rfl), (by simp only [sG, Nat.reduceEqDiff, t1] <;> rfl), (by simp only [sG, Nat.reduceEqDiff, t2] <;> rfl), (by simp only [sG, Nat.reduceEqDiff, t3] <;> rfl), (by simp only [sG, Nat.reduceEqDiff] <;> rfl), hr', hm, ho, hk⟩
    · repeat' (first | refine EvC.seq ?_ | refine EvC.scope ?_ | refine EvC.block ?_ | (refine EvC.skip ?_) | (refine EvC.exit ?_; try simp only [sB]) | (refine EvC.ret ?_; try simp only [z01, z00]) | (refine EvC.reg ?_; simp (config := { maxSteps := 2000000 }) (disch := first | omega | rfl) only [sB, Nat.reduceEqDiff, t8, t2, decn hlt]) | (refine EvC.condT ?_ ?_; simp (config := { maxSteps := 2000000 }) (disch := first | omega | rfl) only [sB, Nat.reduceEqDiff]; refine z03 ?_) | (refine EvC.condF ?_ ?_; simp (config := { maxSteps := 2000000 }) (disch := first | omega | rfl) only [sB, Nat.reduceEqDiff]; refine z03 ?_))
      exact z0l rfl ⟨D', hr', hm, fun p q p1 p2 p3 => ho p q p1 p2 (by omega), hk⟩
  · exact ⟨_, _, a + 1, D, rfl, rfl, Nat.le_refl _, (by simp only [sG, reduceCtorEq] <;> rfl), (by simp only [sG, Nat.reduceEqDiff, reduceCtorEq] <;> rfl), (by simp only [sG, Nat.reduceEqDiff, reduceCtorEq] <;> rfl), (by simp only [sG, Nat.reduceEqDiff, reduceCtorEq] <;> rfl), (by simp only [sG, Nat.reduceEqDiff, reduceCtorEq] <;> rfl), hr, Pm.refl D, InZ.few (by omega), HK.refl hw⟩
end Go.Proofs.YtlllbkjiadcloaaDoor.hb
end

-- Pd4
section
namespace Go.Proofs.YtlllbkjiadcloaaDoor.hb
open Go Go.RowKit Go.Hb
variable {ok : Ok}
set_option maxRecDepth 10000
attribute [local irreducible] LX LG EL STG SOP SGO SGD SAL SRD SEF SEG SLK SCK ES
set_option maxHeartbeats 4000000 in
theorem zeg {b n c lo hi f : Nat} {D : Nat → Bnd} {H : Heap} (hr : RowB H 59 b n D) (hn : n ≤ most) (hfn : f + hi ≤ n) (hlo : lo ≤ n) (hp : HpF Bnd.v f (lo + 1) hi D) (hw : H.wf) :
    EvF Tryd.prog okT 131 [.slice (some ⟨b, 0, none⟩) n c, .int .i64 (lo : Nat), .int .i64 (hi : Nat), .int .i64 (f : Nat), cvB] H fun _ H' =>
      ∃ D', RowB H' 59 b n D' ∧ Pm f (f + hi) D D' ∧ HpF Bnd.v f lo hi D' ∧ HK (· = b) H H' := by
  have hms : most ≤ 1048576 := by simp [most]
  have hg := z2l
  refine EvF.enter rfl Tryd.func131 (by decide) rfl ?_
  repeat' (first | refine EvC.seq ?_ | refine EvC.scope ?_ | refine EvC.block ?_ | (refine EvC.skip ?_) | (refine EvC.exit ?_) | (refine EvC.ret ?_; try simp only [z01, z00]) | (refine EvC.reg ?_; simp (config := { maxSteps := 2000000 }) (disch := first | omega | rfl) only [sB, initTm, Nat.reduceEqDiff, Nat.reduceAdd, reduceCtorEq]))
  refine EvC.loop (fun k st => ∃ tm H' r D', st = ⟨tm, [], H'⟩ ∧ k = hi - r ∧ lo ≤ r ∧ r ≤ n ∧ tm.get 0 = some (.slice (some ⟨b, 0, none⟩) n c) ∧ tm.get 2 = some (.int .i64 (hi : Nat)) ∧ tm.get 3 = some (.int .i64 (f : Nat)) ∧ tm.get 4 = some cvB ∧
    tm.get 10 = some (.int .i64 (r : Nat)) ∧ RowB H' 59 b n D' ∧ Pm f (f + hi) D D' ∧ HpX Bnd.v f lo hi r D' ∧ HK (· = b) H H') ?_ (hi - lo) _ ?_
  · rintro k st ⟨tm, H', r, D', rfl, rfl, hlr, hrn, t0, t2, t3, t4, t10, hr', hm, hx, hk⟩
    have hw1 : IntKind.i64.wrap (2 * (r : Int)) = ((2 * r : Nat) : Int) := by rw [z05 (by omega) (by omega)]; omega
    have hw2 : IntKind.i64.wrap (((2 * r : Nat) : Int) + 1) = ((2 * r + 1 : Nat) : Int) := by rw [z05 (by omega) (by omega)]; omega
    (repeat refine EvC.seq ?_)
    refine EvC.block ?_
    (repeat refine EvC.seq ?_); refine EvC.reg ?_; simp (config := { maxSteps := 2000000 }) (disch := first | omega | rfl) only [sB, Nat.reduceEqDiff, t10, hw1, hw2]
    by_cases h1 : 2 * r + 1 < hi
    · have hd : decide (((2 * r + 1 : Nat) : Int) ≥ (hi : Int)) = false := decide_eq_false (by omega)
      (repeat refine EvC.seq ?_); refine EvC.reg ?_; simp (config := { maxSteps := 2000000 }) (disch := first | omega | rfl) only [sB, Nat.reduceEqDiff, t2, hd]
      (repeat refine EvC.seq ?_); refine EvC.condF (by simp (config := { maxSteps := 2000000 }) (disch := first | omega | rfl) only [sB, Nat.reduceEqDiff]) ?_; (try refine EvC.skip ?_); (try simp only [z02, z09])
      have hw3 : IntKind.i64.wrap (((2 * r + 1 : Nat) : Int) + 1) = ((2 * r + 2 : Nat) : Int) := by rw [z05 (by omega) (by omega)]; omega
      refine EvC.cut (fun st => ∃ tm H' ch, st = ⟨tm, [], H'⟩ ∧ (ch = 2 * r + 1 ∨ ch = 2 * r + 2) ∧ ch < hi ∧ (∀ d, (d = 2 * r + 1 ∨ d = 2 * r + 2) → d < hi → (D' (f + d)).v ≤ (D' (f + ch)).v) ∧ tm.get 0 = some (.slice (some ⟨b, 0, none⟩) n c) ∧ tm.get 2 = some (.int .i64 (hi : Nat)) ∧
        tm.get 3 = some (.int .i64 (f : Nat)) ∧ tm.get 4 = some cvB ∧ tm.get 10 = some (.int .i64 (r : Nat)) ∧ tm.get 11 = some (.int .i64 (ch : Nat)) ∧ RowB H' 59 b n D' ∧ HK (· = b) H H') ?_ ?_
      · by_cases h2 : 2 * r + 2 < hi
        · have hw4 : IntKind.i64.wrap ((f : Int) + ((2 * r + 1 : Nat) : Int)) = ((f + (2 * r + 1) : Nat) : Int) := by rw [z05 (by omega) (by omega)]; omega
          have hw5 : IntKind.i64.wrap (((f + (2 * r + 1) : Nat) : Int) + 1) = ((f + (2 * r + 2) : Nat) : Int) := by rw [z05 (by omega) (by omega)]; omega
          have k1 : f + (2 * r + 1) < n := by omega
          have k2 : f + (2 * r + 2) < n := by omega
          have l1 := hr'.load k1
          have l2 := hr'.load k2
          have hb := hk.bump 22
          repeat' (first | refine EvC.seq ?_ | refine EvC.scope ?_ | refine EvC.block ?_ | (refine EvC.skip ?_) | (refine EvC.exit ?_) | (refine EvC.ret ?_; try simp only [z01, z00]) | (refine EvC.drw (id := 3) [([(0, 0), (1, 0), (2, 0), (3, 0), (4, 0), (5, 0), (6, 0), (7, 0), (8, 0), (9, 0), (10, 0), (11, 0), (12, 0), (13, 0), (14, 0), (15, 0), (16, 0), (17, 0), (18, 0)], some 19), ([(20, 1), (21, 1)], none)] ?_ ?_; kernel_rfl; simp (config := { maxSteps := 2000000 }) (disch := first | omega | rfl) only [sD, sB, Nat.reduceEqDiff, Nat.reduceAdd, reduceCtorEq, ia57, ld59, t0, t2, t3, t4, hw3, decl h2, hw4, hw5, l1, l2, z0o, z0f hg, isAlloc, isRead, reduceCtorEq]))
          obtain ⟨cells0, hg0, -, -⟩ := hr'.row
          have hbl := hk.wf _ _ hg0
          refine (z1t hb.wf).mono ?_
          rintro v H2 ⟨rfl, hx2⟩
          have hk2 := hb.hxs hx2
          have r2 := hr'.heap (H' := H2) (by rw [hx2.keep b (Nat.lt_add_right _ hbl)]; rfl)
          by_cases hc : (D' (f + (2 * r + 1))).v < (D' (f + (2 * r + 2))).v
          · repeat' (first | refine EvC.seq ?_ | refine EvC.scope ?_ | refine EvC.block ?_ | (refine EvC.skip ?_) | (refine EvC.exit ?_) | (refine EvC.ret ?_; try simp only [z01, z00]) | (refine EvC.reg ?_; simp (config := { maxSteps := 2000000 }) (disch := first | omega | rfl) only [sB, Nat.reduceEqDiff, hw3]) | (refine z0h ?_; simp (config := { maxSteps := 2000000 }) (disch := first | omega | rfl) only [sD, sB, Nat.reduceEqDiff, cz_t hc, isAlloc, isRead]) | (refine EvC.condT ?_ ?_; simp (config := { maxSteps := 2000000 }) (disch := first | omega | rfl) only [sB, Nat.reduceEqDiff]; refine z03 ?_))
            exact ⟨_, _, 2 * r + 2, rfl, .inr rfl, h2, fun d hd _ => by rcases hd with rfl | rfl <;> omega, (by simp only [sG, reduceCtorEq, t0] <;> rfl), (by simp only [sG, Nat.reduceEqDiff, t2] <;> rfl), (by simp only [sG, Nat.reduceEqDiff, t3] <;> rfl), (by simp only [sG, Nat.reduceEqDiff, t4] <;> rfl), (by simp only [sG, Nat.reduceEqDiff, t10] <;> rfl), (by simp only [sG, Nat.reduceEqDiff] <;> rfl), r2, hk2⟩
          · repeat' (first | refine EvC.seq ?_ | refine EvC.scope ?_ | refine EvC.block ?_ | (refine EvC.skip ?_; try simp only [true_and]) | (refine EvC.exit ?_) | (refine EvC.ret ?_; try simp only [z01, z00]) | (refine z0h ?_; simp (config := { maxSteps := 2000000 }) (disch := first | omega | rfl) only [sD, sB, Nat.reduceEqDiff, cz_f hc, isAlloc, isRead]) | (refine EvC.condT ?_ ?_; simp (config := { maxSteps := 2000000 }) (disch := first | omega | rfl) only [sB, Nat.reduceEqDiff]; refine z03 ?_) | (refine EvC.condF ?_ ?_; simp (config := { maxSteps := 2000000 }) (disch := first | omega | rfl) only [sB, Nat.reduceEqDiff]; refine z03 ?_))
            exact ⟨_, _, 2 * r + 1, rfl, .inl rfl, h1, fun d hd _ => by rcases hd with rfl | rfl <;> omega, (by simp only [sG, reduceCtorEq, t0] <;> rfl), (by simp only [sG, Nat.reduceEqDiff, t2] <;> rfl), (by simp only [sG, Nat.reduceEqDiff, t3] <;> rfl), (by simp only [sG, Nat.reduceEqDiff, t4] <;> rfl), (by simp only [sG, Nat.reduceEqDiff, t10] <;> rfl), (by simp only [sG, Nat.reduceEqDiff] <;> rfl), r2, hk2⟩
        · repeat' (first | refine EvC.seq ?_ | refine EvC.scope ?_ | refine EvC.block ?_ | (refine EvC.skip ?_; try simp only [true_and]) | (refine EvC.exit ?_) | (refine EvC.ret ?_; try simp only [z01, z00]) | (refine EvC.drw (id := 3) [([(0, 0), (1, 0), (2, 0), (3, 0), (4, 0), (5, 0), (6, 0), (7, 0), (8, 0), (9, 0), (10, 0), (11, 0), (12, 0), (13, 0), (14, 0), (15, 0), (16, 0), (17, 0), (18, 0)], some 19), ([(20, 1), (21, 1)], none)] ?_ ?_; kernel_rfl; simp (config := { maxSteps := 2000000 }) (disch := first | omega | rfl) only [sD, sB, Nat.reduceEqDiff, Nat.reduceAdd, t2, hw3, decn h2, Bool.false_eq_true, isAlloc, isRead]) | (refine EvC.condT ?_ ?_; simp (config := { maxSteps := 2000000 }) (disch := first | omega | rfl) only [sB, Nat.reduceEqDiff]; refine z03 ?_) | (refine EvC.condF ?_ ?_; simp (config := { maxSteps := 2000000 }) (disch := first | omega | rfl) only [sB, Nat.reduceEqDiff]; refine z03 ?_))
          exact ⟨_, _, 2 * r + 1, rfl, .inl rfl, h1, fun d hd h => by rcases hd with rfl | rfl <;> omega, (by simp only [sG, reduceCtorEq, t0] <;> rfl), (by simp only [sG, Nat.reduceEqDiff, t2] <;> rfl), (by simp only [sG, Nat.reduceEqDiff, t3] <;> rfl), (by simp only [sG, Nat.reduceEqDiff, t4] <;> rfl), (by simp only [sG, Nat.reduceEqDiff, t10] <;> rfl), (by simp only [sG, Nat.reduceEqDiff] <;> rfl), hr'.heap rfl, hk.bump _⟩
      · rintro st ⟨tm, H1, ch, rfl, hch, hchi, hbig, t0, t2, t3, t4, t10, t11, hr1, hk1⟩
        have k1 : f + r < n := by omega
        have k2 : f + ch < n := by omega
        have l1 := hr1.load k1
        have l2 := hr1.load k2
        have hb := hk1.bump 16
        have hw6 : IntKind.i64.wrap ((f : Int) + (r : Int)) = ((f + r : Nat) : Int) := by rw [z05 (by omega) (by omega)]; omega
        have hw7 : IntKind.i64.wrap ((f : Int) + (ch : Int)) = ((f + ch : Nat) : Int) := by rw [z05 (by omega) (by omega)]; omega
        repeat' (first | refine EvC.seq ?_ | refine EvC.scope ?_ | refine EvC.block ?_ | (refine EvC.skip ?_) | (refine EvC.exit ?_) | (refine EvC.ret ?_; try simp only [z01, z00]) | (refine EvC.drw (id := 5) [([(0, 0), (1, 0), (2, 0), (3, 0), (4, 0), (5, 0), (6, 0), (7, 0), (8, 0), (9, 0), (10, 0), (11, 0), (12, 0)], some 13), ([(14, 1), (15, 1)], none)] ?_ ?_; kernel_rfl; simp (config := { maxSteps := 2000000 }) (disch := first | omega | rfl) only [sD, sB, Nat.reduceEqDiff, Nat.reduceAdd, reduceCtorEq, ia57, ld59, t0, t3, t4, t10, t11, hw6, hw7, l1, l2, z0o, z0f hg, isAlloc, isRead, reduceCtorEq]))
        obtain ⟨cells0, hg0, -, -⟩ := hr1.row
        have hbl := hk1.wf _ _ hg0
        refine (z1t hb.wf).mono ?_
        rintro v H2 ⟨rfl, hx2⟩
        have hk2 := hb.hxs hx2
        have r2 := hr1.heap (H' := H2) (by rw [hx2.keep b (Nat.lt_add_right _ hbl)]; rfl)
        by_cases hc : (D' (f + r)).v < (D' (f + ch)).v
        · have l1 := r2.load k1
          have l2 := r2.load k2
          obtain ⟨cells, hg2, hl, he⟩ := r2.row
          have hbl2 := hk2.wf _ _ hg2
          have le1 : (f + r) * 7 + 7 ≤ cells.length := by have := mul7 k1; omega
          have le2 : (f + ch) * 7 + 7 ≤ cells.length := by have := mul7 k2; omega
          have hsw := fun H2 h2 => RowB.swap (H := H') (b := b) (T := 59) hl he k1 k2 H2 h2
          have ms := Pm.swap (a := f) (b := f + hi) (i := f + r) (j := f + ch) (D := D') (by omega) (by omega) (by omega) (by omega)
          have hst := hx.step hlr hch hchi hc hbig
          generalize hE1 : D' (f + r) = E1 at *
          generalize hE2 : D' (f + ch) = E2 at *
          have le3 : (f + ch) * 7 + 7 ≤ (Hb.splice cells ((f + r) * 7) E2.seven).length := by rw [z0e (vs := E2.seven) le1]; exact le2
          repeat' (first | refine EvC.seq ?_ | refine EvC.scope ?_ | refine EvC.block ?_ | (refine EvC.skip ?_; try simp only [z02]) | (refine EvC.exit ?_) | (refine EvC.ret ?_; try simp only [z01, z00]) | (refine EvC.reg ?_; simp (config := { maxSteps := 2000000 }) (disch := first | omega | rfl) only [sB, Nat.reduceEqDiff, t11]) | (refine EvC.drw (id := 6) [([(0, 0), (1, 0), (2, 0), (3, 0), (8, 0), (9, 0), (10, 0), (11, 0), (12, 0), (13, 0), (14, 0), (15, 0), (16, 0), (17, 0), (18, 0), (19, 0), (20, 0)], some 21), ([(4, 0), (5, 0), (6, 0), (7, 0), (22, 1)], some 23), ([], none)] ?_ ?_; kernel_rfl; simp (config := { maxSteps := 2000000 }) (disch := first | omega | rfl) only [sV, sD, sB, Nat.reduceEqDiff, Nat.reduceAdd, one, reduceCtorEq, ia57, ld59, st59, t0, t3, t10, t11, hw6, hw7, l1, l2, hg2, le1, le3, isAlloc, isRead, reduceCtorEq]) | (refine z0h ?_; simp (config := { maxSteps := 2000000 }) (disch := first | omega | rfl) only [sD, sB, Nat.reduceEqDiff, cz_t hc, Bool.not_true, isAlloc, isRead]) | (refine EvC.condT ?_ ?_; simp (config := { maxSteps := 2000000 }) (disch := first | omega | rfl) only [sB, Nat.reduceEqDiff]; refine z03 ?_) | (refine EvC.condF ?_ ?_; simp (config := { maxSteps := 2000000 }) (disch := first | omega | rfl) only [sB, Nat.reduceEqDiff]; refine z03 ?_))
          exact ⟨hi - ch, by omega, _, _, ch, _, rfl, rfl, by omega, by omega, (by simp only [sG, reduceCtorEq, t0] <;> rfl), (by simp only [sG, Nat.reduceEqDiff, t2] <;> rfl), (by simp only [sG, Nat.reduceEqDiff, t3] <;> rfl), (by simp only [sG, Nat.reduceEqDiff, t4] <;> rfl), (by simp only [sG, Nat.reduceEqDiff] <;> rfl), hsw _ (by rw [get_put, if_pos rfl]), hm.trans ms, hst, hk2.two hbl2 _ _ _⟩
        · repeat' (first | refine EvC.seq ?_ | refine EvC.scope ?_ | refine EvC.block ?_ | (refine EvC.skip ?_) | (refine EvC.exit ?_) | (refine EvC.ret ?_; try simp only [z01, z00]) | (refine z0h ?_; simp (config := { maxSteps := 2000000 }) (disch := first | omega | rfl) only [sD, sB, Nat.reduceEqDiff, cz_f hc, Bool.not_false, isAlloc, isRead]) | (refine EvC.condT ?_ ?_; simp (config := { maxSteps := 2000000 }) (disch := first | omega | rfl) only [sB, Nat.reduceEqDiff]; refine z03 ?_))
          exact z2b rfl ⟨D', r2, hm, hx.done fun d hd hlt => Int.le_trans (hbig d hd hlt) (by omega), hk2⟩
    · have hd : decide (((2 * r + 1 : Nat) : Int) ≥ (hi : Int)) = true := decide_eq_true (by omega)
      repeat' (first | refine EvC.seq ?_ | refine EvC.scope ?_ | refine EvC.block ?_ | (refine EvC.skip ?_) | (refine EvC.exit ?_; try simp only [sB, reduceCtorEq]) | (refine EvC.ret ?_; try simp only [z01, z00]) | (refine EvC.reg ?_; simp (config := { maxSteps := 2000000 }) (disch := first | omega | rfl) only [sB, Nat.reduceEqDiff, t2, hd]) | (refine EvC.condT ?_ ?_; simp (config := { maxSteps := 2000000 }) (disch := first | omega | rfl) only [sB, Nat.reduceEqDiff]; refine z03 ?_))
      exact z0l rfl ⟨D', hr', hm, hx.done fun d hd hlt => by omega, hk⟩
  · exact ⟨_, _, lo, D, rfl, rfl, Nat.le_refl _, hlo, (by simp only [sG, reduceCtorEq] <;> rfl), (by simp only [sG, Nat.reduceEqDiff, reduceCtorEq] <;> rfl), (by simp only [sG, Nat.reduceEqDiff, reduceCtorEq] <;> rfl), (by simp only [sG, Nat.reduceEqDiff, reduceCtorEq] <;> rfl), (by simp only [sG, Nat.reduceEqDiff, reduceCtorEq] <;> rfl), hr, Pm.refl D, .start hp, HK.refl hw⟩
set_option maxHeartbeats 4000000 in
theorem zk2 {b n c a e : Nat} {D : Nat → Bnd} {H : Heap} (hr : RowB H 59 b n D) (hn : n ≤ most) (h1 : a < e) (h3 : e ≤ n) (hw : H.wf) :
    EvF Tryd.prog okT 114 [.slice (some ⟨b, 0, none⟩) n c, .int .i64 (a : Nat), .int .i64 (e : Nat), cvB] H fun _ H' =>
      ∃ D', RowB H' 59 b n D' ∧ Pm a e D D' ∧ InZ Bnd.v a e D' ∧ HK (· = b) H H' := by
  have hms : most ≤ 1048576 := by simp [most]
  obtain ⟨m, rfl⟩ : ∃ m, e = a + (m + 1) := ⟨e - a - 1, by omega⟩
  refine EvF.enter rfl Tryd.func114 (by decide) rfl ?_
  have hw1 : IntKind.i64.wrap (((a + (m + 1) : Nat) : Int) - (a : Int)) = ((m + 1 : Nat) : Int) := by rw [z05 (by omega) (by omega)]; omega
  have hw2 : IntKind.i64.wrap (((m + 1 : Nat) : Int) - 1) = ((m : Nat) : Int) := by rw [z05 (by omega) (by omega)]; omega
  have hq : IntKind.i64.wrap (((m : Nat) : Int).tdiv 2) = ((m / 2 + 1 : Nat) : Int) - 1 := by rw [Int.tdiv_eq_ediv_of_nonneg (by omega), z05 (by omega) (by omega)]; omega
  (repeat refine EvC.seq ?_); refine EvC.reg ?_; simp (config := { maxSteps := 2000000 }) (disch := first | omega | rfl) only [sB, initTm, Nat.reduceEqDiff, Nat.reduceAdd, reduceCtorEq]
  (repeat refine EvC.seq ?_); refine EvC.reg ?_; simp (config := { maxSteps := 2000000 }) (disch := first | omega | rfl) only [sA]
  (repeat refine EvC.seq ?_); refine EvC.reg ?_; simp (config := { maxSteps := 2000000 }) (disch := first | omega | rfl) only [sB, Nat.reduceEqDiff, reduceCtorEq, hw1]
  (repeat refine EvC.seq ?_); refine EvC.reg ?_; simp (config := { maxSteps := 2000000 }) (disch := first | omega | rfl) only [sB, Nat.reduceEqDiff, reduceCtorEq, hw2, bQuo, hq]
  refine EvC.meet (fun st => ∃ tm H' D', st = ⟨tm, [], H'⟩ ∧ tm.get 0 = some (.slice (some ⟨b, 0, none⟩) n c) ∧ tm.get 3 = some cvB ∧ tm.get 8 = some (.int .i64 (a : Nat)) ∧ tm.get 9 = some (.int .i64 0) ∧ tm.get 10 = some (.int .i64 ((m + 1 : Nat) : Int)) ∧
    RowB H' 59 b n D' ∧ Pm a (a + (m + 1)) D D' ∧ HpF Bnd.v a 0 (m + 1) D' ∧ HK (· = b) H H') ?_ ?_
  · refine EvC.block (EvC.loop (fun k st => ∃ tm H' D', st = ⟨tm, [], H'⟩ ∧ k ≤ m + 1 ∧ tm.get 0 = some (.slice (some ⟨b, 0, none⟩) n c) ∧ tm.get 3 = some cvB ∧ tm.get 8 = some (.int .i64 (a : Nat)) ∧ tm.get 9 = some (.int .i64 0) ∧ tm.get 10 = some (.int .i64 ((m + 1 : Nat) : Int)) ∧
      tm.get 11 = some (.int .i64 ((k : Nat) - 1 : Int)) ∧ RowB H' 59 b n D' ∧ Pm a (a + (m + 1)) D D' ∧ HpF Bnd.v a k (m + 1) D' ∧ HK (· = b) H H') ?_ (m / 2 + 1) _ ?_)
    · rintro k st ⟨tm, H', D', rfl, hkm, t0, t3, t8, t9, t10, t11, hr', hm, hp, hk⟩
      by_cases hk0 : k = 0
      · subst hk0
        have hd : decide (((0 : Nat) : Int) - 1 ≥ 0) = false := rfl
        repeat' (first | refine EvC.seq ?_ | refine EvC.scope ?_ | refine EvC.block ?_ | (refine EvC.skip ?_) | (refine EvC.exit ?_; try simp only [sB, reduceCtorEq]) | (refine EvC.ret ?_; try simp only [z01, z00]) | (refine EvC.reg ?_; simp (config := { maxSteps := 2000000 }) (disch := first | omega | rfl) only [sB, t11, hd]) | (refine EvC.condT ?_ ?_; simp (config := { maxSteps := 2000000 }) (disch := first | omega | rfl) only [sB, Nat.reduceEqDiff]; refine z03 ?_) | (refine EvC.condF ?_ ?_; simp (config := { maxSteps := 2000000 }) (disch := first | omega | rfl) only [sB, Nat.reduceEqDiff]; refine z03 ?_))
        exact ⟨_, _, D', rfl, (by simp only [sG, reduceCtorEq, t0] <;> rfl), (by simp only [sG, Nat.reduceEqDiff, t3] <;> rfl), (by simp only [sG, Nat.reduceEqDiff, t8] <;> rfl), (by simp only [sG, Nat.reduceEqDiff, t9] <;> rfl), (by simp only [sG, Nat.reduceEqDiff, t10] <;> rfl), hr', hm, hp, hk⟩
      · obtain ⟨j, rfl⟩ : ∃ j, k = j + 1 := ⟨k - 1, by omega⟩
        rw [show ((j + 1 : Nat) : Int) - 1 = (j : Int) by omega] at t11
        have hd : decide ((j : Int) ≥ 0) = true := decide_eq_true (by omega)
        have hw3 : IntKind.i64.wrap ((j : Int) - 1) = (j : Int) - 1 := by rw [z05 (by omega) (by omega)]
        repeat' (first | refine EvC.seq ?_ | refine EvC.scope ?_ | refine EvC.block ?_ | (refine EvC.skip ?_; try simp only [z02]) | (refine EvC.exit ?_) | (refine EvC.ret ?_; try simp only [z01, z00]) | (refine EvC.reg ?_; simp (config := { maxSteps := 2000000 }) (disch := first | omega | rfl) only [sB, Nat.reduceEqDiff, reduceCtorEq, znk, t0, t3, t8, t10, t11, hd]) | (refine EvC.condT ?_ ?_; simp (config := { maxSteps := 2000000 }) (disch := first | omega | rfl) only [sB, Nat.reduceEqDiff]; refine z03 ?_))
        refine (zeg hr' hn (by omega) (by omega) hp hk.wf).mono ?_
        rintro v H2 ⟨D2, r2, m2, p2, k2⟩
        repeat' (first | refine EvC.seq ?_ | refine EvC.scope ?_ | refine EvC.block ?_ | (refine EvC.skip ?_) | (refine EvC.exit ?_) | (refine EvC.ret ?_; try simp only [z01, z00]) | (refine EvC.reg ?_; simp (config := { maxSteps := 2000000 }) (disch := first | omega | rfl) only [sB, Nat.reduceEqDiff, t11, hw3]))
        exact ⟨j, Nat.lt_succ_self _, _, _, D2, rfl, by omega, (by simp only [sG, reduceCtorEq, t0] <;> rfl), (by simp only [sG, Nat.reduceEqDiff, t3] <;> rfl), (by simp only [sG, Nat.reduceEqDiff, t8] <;> rfl), (by simp only [sG, Nat.reduceEqDiff, t9] <;> rfl), (by simp only [sG, Nat.reduceEqDiff, t10] <;> rfl), (by simp only [sG, Nat.reduceEqDiff] <;> rfl), r2, hm.trans m2, p2, hk.trans k2⟩
    · exact ⟨_, _, D, rfl, by omega, (by simp only [sG, reduceCtorEq] <;> rfl), (by simp only [sG, Nat.reduceEqDiff, reduceCtorEq] <;> rfl), (by simp only [sG, Nat.reduceEqDiff, reduceCtorEq] <;> rfl), (by simp only [sG, Nat.reduceEqDiff, reduceCtorEq] <;> rfl), (by simp only [sG, Nat.reduceEqDiff, reduceCtorEq] <;> rfl), (by simp only [sG, Nat.reduceEqDiff, reduceCtorEq] <;> rfl), hr, Pm.refl D, fun k c h1 h2 h3 => by omega, HK.refl hw⟩
  rintro st ⟨tm, H1, D1, rfl, t0, t3, t8, t9, t10, hr1, hm1, hp1, hk1⟩
  (repeat refine EvC.seq ?_); refine EvC.reg ?_; simp (config := { maxSteps := 2000000 }) (disch := first | omega | rfl) only [sB, Nat.reduceEqDiff, t10, hw2]
  refine EvC.block (EvC.loop (fun k st => ∃ tm H' D', st = ⟨tm, [], H'⟩ ∧ k ≤ m + 1 ∧ tm.get 0 = some (.slice (some ⟨b, 0, none⟩) n c) ∧ tm.get 3 = some cvB ∧ tm.get 8 = some (.int .i64 (a : Nat)) ∧ tm.get 9 = some (.int .i64 0) ∧
      tm.get 12 = some (.int .i64 ((k : Nat) - 1 : Int)) ∧ RowB H' 59 b n D' ∧ Pm a (a + (m + 1)) D D' ∧ HpF Bnd.v a 0 k D' ∧ InZ Bnd.v (a + k) (a + (m + 1)) D' ∧ (∀ p q, a ≤ p → p < a + k → a + k ≤ q → q < a + (m + 1) → (D' p).v ≤ (D' q).v) ∧ HK (· = b) H H') ?_ (m + 1) _ ?_)
  · rintro k st ⟨tm, H', D', rfl, hkm, t0, t3, t8, t9, t12, hr', hm, hp, ho, hbd, hk⟩
    by_cases hk0 : k = 0
    · subst hk0
      have hd : decide (((0 : Nat) : Int) - 1 ≥ 0) = false := rfl
      repeat' (first | refine EvC.seq ?_ | refine EvC.scope ?_ | refine EvC.block ?_ | (refine EvC.skip ?_) | (refine EvC.exit ?_; try simp only [sB]) | (refine EvC.ret ?_; try simp only [z01, z00]) | (refine EvC.reg ?_; simp (config := { maxSteps := 2000000 }) (disch := first | omega | rfl) only [sB, t12, hd]) | (refine EvC.condT ?_ ?_; simp (config := { maxSteps := 2000000 }) (disch := first | omega | rfl) only [sB, Nat.reduceEqDiff]; refine z03 ?_) | (refine EvC.condF ?_ ?_; simp (config := { maxSteps := 2000000 }) (disch := first | omega | rfl) only [sB, Nat.reduceEqDiff]; refine z03 ?_))
      exact z0l rfl ⟨D', hr', hm, ho, hk⟩
    · obtain ⟨j, rfl⟩ : ∃ j, k = j + 1 := ⟨k - 1, by omega⟩
      rw [show ((j + 1 : Nat) : Int) - 1 = (j : Int) by omega] at t12
      have hd : decide ((j : Int) ≥ 0) = true := decide_eq_true (by omega)
      have hw3 : IntKind.i64.wrap ((j : Int) - 1) = (j : Int) - 1 := by rw [z05 (by omega) (by omega)]
      have hw4 : IntKind.i64.wrap ((a : Int) + (j : Int)) = ((a + j : Nat) : Int) := by rw [z05 (by omega) (by omega)]; omega
      have k1 : a < n := by omega
      have k2 : a + j < n := by omega
      have l1 := hr'.load k1
      have l2 := hr'.load k2
      obtain ⟨cells, hg2, hl, he⟩ := hr'.row
      have hbl2 := hk.wf _ _ hg2
      have le1 : a * 7 + 7 ≤ cells.length := by have := mul7 k1; omega
      have le2 : (a + j) * 7 + 7 ≤ cells.length := by have := mul7 k2; omega
      have hsw := fun H2 h2 => RowB.swap (H := H') (b := b) (T := 59) hl he k1 k2 H2 h2
      have ms := Pm.swap (a := a) (b := a + (m + 1)) (i := a) (j := a + j) (D := D') (by omega) (by omega) (by omega) (by omega)
      have hdr := hp.drop
      have hps := fun D2 => zk0 (D2 := D2) hp ho hbd
      generalize hD1 : swF a (a + j) D' = D1 at *
      generalize hE1 : D' a = E1 at *
      generalize hE2 : D' (a + j) = E2 at *
      have le3 : (a + j) * 7 + 7 ≤ (Hb.splice cells (a * 7) E2.seven).length := by rw [z0e (vs := E2.seven) le1]; exact le2
      repeat' (first | refine EvC.seq ?_ | refine EvC.scope ?_ | refine EvC.block ?_ | (refine EvC.skip ?_; try simp only [z02]) | (refine EvC.exit ?_) | (refine EvC.ret ?_; try simp only [z01, z00]) | (refine EvC.reg ?_; simp (config := { maxSteps := 2000000 }) (disch := first | omega | rfl) only [sB, Nat.reduceEqDiff, reduceCtorEq, znk, t0, t3, t8, t9, t12, hd]) | (refine EvC.drw [([(0, 0), (1, 0), (6, 0), (7, 0), (8, 0), (9, 0), (10, 0), (11, 0), (12, 0), (13, 0), (14, 0), (15, 0), (16, 0)], some 17), ([(2, 0), (3, 0), (4, 0), (5, 0), (18, 1)], some 19), ([], none)] ?_ ?_; kernel_rfl; simp (config := { maxSteps := 2000000 }) (disch := first | omega | rfl) only [sV, sD, sB, Nat.reduceEqDiff, Nat.reduceAdd, one, reduceCtorEq, ia57, ld59, st59, t0, t8, t12, hw4, l1, l2, hg2, le1, le3, isAlloc, isRead, reduceCtorEq]) | (refine EvC.condT ?_ ?_; simp (config := { maxSteps := 2000000 }) (disch := first | omega | rfl) only [sB, Nat.reduceEqDiff]; refine z03 ?_))
      refine (zeg (lo := 0) (hsw _ (by rw [get_put, if_pos rfl])) hn (by omega) (by omega) hdr (hk.two hbl2 _ _ _).wf).mono ?_
      rintro v H2 ⟨D2, r2, m2, p2, kk2⟩
      obtain ⟨o2, b2⟩ := hps D2 m2 (by omega)
      repeat' (first | refine EvC.seq ?_ | refine EvC.scope ?_ | refine EvC.block ?_ | (refine EvC.skip ?_) | (refine EvC.exit ?_) | (refine EvC.ret ?_; try simp only [z01, z00]) | (refine EvC.reg ?_; simp (config := { maxSteps := 2000000 }) (disch := first | omega | rfl) only [sB, Nat.reduceEqDiff, t12, hw3]))
      exact ⟨j, Nat.lt_succ_self _, _, _, D2, rfl, by omega, (by simp only [sG, reduceCtorEq, t0] <;> rfl), (by simp only [sG, Nat.reduceEqDiff, t3] <;> rfl), (by simp only [sG, Nat.reduceEqDiff, t8] <;> rfl), (by simp only [sG, Nat.reduceEqDiff, t9] <;> rfl), (by simp only [sG, Nat.reduceEqDiff] <;> rfl), r2, hm.trans (ms.trans (m2.wide (Nat.le_refl _) (by omega))), p2, o2, b2, (hk.two hbl2 _ _ _).trans kk2⟩
  · exact ⟨_, _, D1, rfl, Nat.le_refl _, (by simp only [sG, reduceCtorEq, t0] <;> rfl), (by simp only [sG, Nat.reduceEqDiff, t3] <;> rfl), (by simp only [sG, Nat.reduceEqDiff, t8] <;> rfl), (by simp only [sG, Nat.reduceEqDiff, t9] <;> rfl), by first | (simp only [sB, Nat.reduceEqDiff]; rfl) | simp only [sB, Nat.reduceEqDiff]; rw [show ((m + 1 : Nat) : Int) - 1 = (m : Int) by omega], hr1, hm1, hp1, InZ.few (by omega), fun p q h1 h2 h3 h4 => by omega, hk1⟩
end Go.Proofs.YtlllbkjiadcloaaDoor.hb
end

-- Pd5
section
namespace Go.Proofs.YtlllbkjiadcloaaDoor.hb
open Go Go.RowKit Go.Hb
variable {ok : Ok}
set_option maxRecDepth 10000
attribute [local irreducible] LX LG EL STG SOP SGO SGD SAL SRD SEF SEG SLK SCK ES
set_option maxHeartbeats 4000000 in
theorem zcq {b n c a e : Nat} {D : Nat → Bnd} {H : Heap} (hr : RowB H 59 b n D) (hn : n ≤ most) (h1 : a < e) (h3 : e ≤ n) (hw : H.wf) :
    EvF Tryd.prog okT 117 [.slice (some ⟨b, 0, none⟩) n c, .int .i64 (a : Nat), .int .i64 (e : Nat), cvB] H fun _ H' =>
      ∃ D', RowB H' 59 b n D' ∧ Pm a e D D' ∧ HK (· = b) H H' := by
  have hms : most ≤ 1048576 := by simp [most]
  refine EvF.enter rfl Tryd.func117 (by decide) rfl ?_
  have hw1 : IntKind.i64.wrap ((e : Int) - 1) = ((e - 1 : Nat) : Int) := by rw [z05 (by omega) (by omega)]; omega
  (repeat refine EvC.seq ?_); refine EvC.reg ?_; simp (config := { maxSteps := 2000000 }) (disch := first | omega | rfl) only [sB, initTm, Nat.reduceEqDiff, Nat.reduceAdd, reduceCtorEq]
  (repeat refine EvC.seq ?_); refine EvC.reg ?_; simp (config := { maxSteps := 2000000 }) (disch := first | omega | rfl) only [sB, Nat.reduceEqDiff, reduceCtorEq, hw1]
  refine EvC.block (EvC.loop (fun k st => ∃ tm H' i j D', st = ⟨tm, [], H'⟩ ∧ k = j - i ∧ a ≤ i ∧ j < e ∧ tm.get 0 = some (.slice (some ⟨b, 0, none⟩) n c) ∧ tm.get 8 = some (.int .i64 (i : Nat)) ∧ tm.get 9 = some (.int .i64 (j : Nat)) ∧
    RowB H' 59 b n D' ∧ Pm a e D D' ∧ HK (· = b) H H') ?_ (e - 1 - a) _ ?_)
  · rintro k st ⟨tm, H', i, j, D', rfl, rfl, hi, hj, t0, t8, t9, hr', hm, hk⟩
    by_cases hlt : i < j
    · have hw2 : IntKind.i64.wrap ((i : Int) + 1) = ((i + 1 : Nat) : Int) := by rw [z05 (by omega) (by omega)]; omega
      have hw3 : IntKind.i64.wrap ((j : Int) - 1) = ((j - 1 : Nat) : Int) := by rw [z05 (by omega) (by omega)]; omega
      have k1 : i < n := by omega
      have k2 : j < n := by omega
      have l1 := hr'.load k1
      have l2 := hr'.load k2
      obtain ⟨cells, hg2, hl, he⟩ := hr'.row
      have hbl2 := hk.wf _ _ hg2
      have le1 : i * 7 + 7 ≤ cells.length := by have := mul7 k1; omega
      have le2 : j * 7 + 7 ≤ cells.length := by have := mul7 k2; omega
      have hsw := fun H2 h2 => RowB.swap (H := H') (b := b) (T := 59) hl he k1 k2 H2 h2
      have ms := Pm.swap (a := a) (b := e) (i := i) (j := j) (D := D') hi (by omega) (by omega) hj
      generalize hE1 : D' i = E1 at *
      generalize hE2 : D' j = E2 at *
      have le3 : j * 7 + 7 ≤ (Hb.splice cells (i * 7) E2.seven).length := by rw [z0e (vs := E2.seven) le1]; exact le2
      repeat' (first | refine EvC.seq ?_ | refine EvC.scope ?_ | refine EvC.block ?_ | (refine EvC.skip ?_; try simp only [z02]) | (refine EvC.exit ?_) | (refine EvC.ret ?_; try simp only [z01, z00]) | (refine EvC.reg ?_; simp (config := { maxSteps := 2000000 }) (disch := first | omega | rfl) only [sB, Nat.reduceEqDiff, t8, t9, decl hlt, hw2, hw3]) | (refine EvC.drw [([(0, 0), (1, 0), (4, 0), (5, 0), (6, 0), (7, 0), (8, 0), (9, 0), (10, 0), (11, 0), (12, 0)], some 13), ([(2, 0), (3, 0), (14, 1)], some 15), ([], none)] ?_ ?_; kernel_rfl; simp (config := { maxSteps := 2000000 }) (disch := first | omega | rfl) only [sV, sD, sB, Nat.reduceEqDiff, Nat.reduceAdd, one, reduceCtorEq, ia57, ld59, st59, t0, t8, t9, l1, l2, hg2, le1, le3, isAlloc, isRead, reduceCtorEq]) | (refine EvC.condT ?_ ?_; simp (config := { maxSteps := 2000000 }) (disch := first | omega | rfl) only [sB, Nat.reduceEqDiff]; refine z03 ?_))
      exact ⟨j - 1 - (i + 1), by omega, _, _, i + 1, j - 1, _, rfl, rfl, by omega, by omega, (by simp only [sG, reduceCtorEq, t0] <;> rfl), (by simp only [sG, Nat.reduceEqDiff] <;> rfl), (by simp only [sG, Nat.reduceEqDiff] <;> rfl), hsw _ (by rw [get_put, if_pos rfl]), hm.trans ms, hk.two hbl2 _ _ _⟩
    · repeat' (first | refine EvC.seq ?_ | refine EvC.scope ?_ | refine EvC.block ?_ | (refine EvC.skip ?_) | (refine EvC.exit ?_; try simp only [sB]) | (refine EvC.ret ?_; try simp only [z01, z00]) | (refine EvC.reg ?_; simp (config := { maxSteps := 2000000 }) (disch := first | omega | rfl) only [sB, Nat.reduceEqDiff, t8, t9, decn hlt]) | (refine EvC.condT ?_ ?_; simp (config := { maxSteps := 2000000 }) (disch := first | omega | rfl) only [sB, Nat.reduceEqDiff]; refine z03 ?_) | (refine EvC.condF ?_ ?_; simp (config := { maxSteps := 2000000 }) (disch := first | omega | rfl) only [sB, Nat.reduceEqDiff]; refine z03 ?_))
      exact z0l rfl ⟨D', hr', hm, hk⟩
  · exact ⟨_, _, a, e - 1, D, rfl, rfl, Nat.le_refl _, by omega, (by simp only [sG, reduceCtorEq] <;> rfl), (by simp only [sG, Nat.reduceEqDiff, reduceCtorEq] <;> rfl), (by simp only [sG, Nat.reduceEqDiff, reduceCtorEq] <;> rfl), hr, Pm.refl D, HK.refl hw⟩
set_option maxHeartbeats 4000000 in
theorem z5r {b n c x y s w : Nat} {D : Nat → Bnd} {H : Heap} (hr : RowB H 59 b n D) (hn : n ≤ most) (h1 : x < n) (h2 : y < n) (hs : H.get s = some (.row [.int .i64 (w : Nat)] 3)) (hsb : s ≠ b) (hww : w ≤ 1000) (hw : H.wf) :
    EvF Tryd.prog okT 149 [.slice (some ⟨b, 0, none⟩) n c, .int .i64 (x : Nat), .int .i64 (y : Nat), .pointer (some ⟨s, 0, none⟩), cvB] H fun v H' =>
      ∃ p q w' : Nat, v = .tuple ⟨[.int .i64 (p : Nat), .int .i64 (q : Nat)]⟩ ∧ (p = x ∧ q = y ∨ p = y ∧ q = x) ∧ H'.get s = some (.row [.int .i64 (w' : Nat)] 3) ∧ w' ≤ w + 1 ∧ RowB H' 59 b n D ∧ HK (· = s) H H' := by
  have hms : most ≤ 1048576 := by simp [most]
  have hg := z2l
  refine EvF.enter rfl Tryd.func149 (by decide) rfl ?_
  have l1 := hr.load h1
  have l2 := hr.load h2
  have hb := (HX.refl hw).bump 11
  repeat' (first | refine EvC.seq ?_ | refine EvC.scope ?_ | refine EvC.block ?_ | (refine EvC.skip ?_) | (refine EvC.exit ?_) | (refine EvC.ret ?_; try simp only [z01, z00]) | (refine EvC.reg ?_; simp (config := { maxSteps := 2000000 }) (disch := first | omega | rfl) only [sA, initTm, Nat.reduceAdd]) | (refine EvC.drw [([(0, 0), (1, 0), (2, 0), (3, 0), (4, 0), (5, 0), (6, 0), (7, 0), (8, 0)], some 9), ([(10, 1)], none)] ?_ ?_; kernel_rfl; simp (config := { maxSteps := 2000000 }) (disch := first | omega | rfl) only [sD, sB, Nat.reduceEqDiff, Nat.reduceAdd, reduceCtorEq, ia57, ld59, l1, l2, z0o, z0f hg, isAlloc, isRead, reduceCtorEq]))
  obtain ⟨cells0, hg0, -, -⟩ := hr.row
  have hbl := hw _ _ hg0
  have hsl := hw _ _ hs
  refine (z1t hb.wf).mono ?_
  rintro v H2 ⟨rfl, hx2⟩
  have hx := hb.trans hx2
  have r2 := hr.heap (H' := H2) (hx.keep b hbl)
  have s2 := hx.get hw hs
  have ls : H2.load ⟨s, 0, none⟩ 1 = some [.int .i64 (w : Nat)] := by simp only [Heap.load, Heap.cells, s2]; rfl
  by_cases hc : (D y).v < (D x).v
  · have hw1 : IntKind.i64.wrap ((w : Int) + 1) = ((w + 1 : Nat) : Int) := by rw [z05 (by omega) (by omega)]; omega
    repeat' (first | refine EvC.seq ?_ | refine EvC.scope ?_ | refine EvC.block ?_ | (refine EvC.skip ?_) | (refine EvC.exit ?_) | (refine EvC.ret ?_; try simp only [z01, z00]) | (refine EvC.reg ?_; simp (config := { maxSteps := 2000000 }) (disch := first | omega | rfl) only [sB, Nat.reduceEqDiff, one, reduceCtorEq, ld3, st3, z25, z5b, ls, s2, hw1]) | (refine z0h ?_; simp (config := { maxSteps := 2000000 }) (disch := first | omega | rfl) only [sD, sB, Nat.reduceEqDiff, reduceCtorEq, cz_t hc, isAlloc, isRead, reduceCtorEq]) | (refine EvC.condT ?_ ?_; simp (config := { maxSteps := 2000000 }) (disch := first | omega | rfl) only [sB, Nat.reduceEqDiff, reduceCtorEq]; refine z03 ?_))
    exact z1k rfl (by simp only [sG, Nat.reduceEqDiff, reduceCtorEq] <;> rfl) (by simp only [sG, Nat.reduceEqDiff, reduceCtorEq] <;> rfl) ⟨y, x, w + 1, rfl, .inr ⟨rfl, rfl⟩, by rw [get_put, if_pos rfl], Nat.le_refl _, r2.heap (by rw [get_put, if_neg (fun q => hsb q.symm)]), (hx.hk (fun x => x = s)).put (.inl rfl) (Nat.lt_of_lt_of_le hsl hx.next) _⟩
  · repeat' (first | refine EvC.seq ?_ | refine EvC.scope ?_ | refine EvC.block ?_ | (refine EvC.skip ?_; try simp only [z02]) | (refine EvC.exit ?_) | (refine EvC.ret ?_; try simp only [z01, z00]) | (refine EvC.reg ?_; simp (config := { maxSteps := 2000000 }) (disch := first | omega | rfl) only [sB, Nat.reduceEqDiff, reduceCtorEq]) | (refine z0h ?_; simp (config := { maxSteps := 2000000 }) (disch := first | omega | rfl) only [sD, sB, Nat.reduceEqDiff, reduceCtorEq, cz_f hc, isAlloc, isRead, reduceCtorEq]) | (refine EvC.condT ?_ ?_; simp (config := { maxSteps := 2000000 }) (disch := first | omega | rfl) only [sB, Nat.reduceEqDiff, reduceCtorEq]; refine z03 ?_) | (refine EvC.condF ?_ ?_; simp (config := { maxSteps := 2000000 }) (disch := first | omega | rfl) only [sB, Nat.reduceEqDiff, reduceCtorEq]; refine z03 ?_))
    exact z1k rfl (by simp only [sG, Nat.reduceEqDiff, reduceCtorEq] <;> rfl) (by simp only [sG, Nat.reduceEqDiff, reduceCtorEq] <;> rfl) ⟨x, y, w, rfl, .inl ⟨rfl, rfl⟩, s2, by omega, r2, hx.hk _⟩
set_option maxHeartbeats 4000000 in
theorem z8k {b n c x y z s w : Nat} {D : Nat → Bnd} {H : Heap} (hr : RowB H 59 b n D) (hn : n ≤ most) (h1 : x < n) (h2 : y < n) (h3 : z < n) (hs : H.get s = some (.row [.int .i64 (w : Nat)] 3)) (hsb : s ≠ b) (hww : w ≤ 900) (hw : H.wf) :
    EvF Tryd.prog okT 135 [.slice (some ⟨b, 0, none⟩) n c, .int .i64 (x : Nat), .int .i64 (y : Nat), .int .i64 (z : Nat), .pointer (some ⟨s, 0, none⟩), cvB] H fun v H' =>
      ∃ p w' : Nat, v = .int .i64 (p : Nat) ∧ (p = x ∨ p = y ∨ p = z) ∧ H'.get s = some (.row [.int .i64 (w' : Nat)] 3) ∧ w' ≤ w + 3 ∧ RowB H' 59 b n D ∧ HK (· = s) H H' := by
  refine EvF.enter rfl Tryd.func135 (by decide) rfl ?_
  repeat' (first | refine EvC.seq ?_ | refine EvC.scope ?_ | refine EvC.block ?_ | (refine EvC.skip ?_) | (refine EvC.exit ?_) | (refine EvC.ret ?_; try simp only [z01, z00]) | (refine EvC.reg ?_; simp (config := { maxSteps := 2000000 }) (disch := first | omega | rfl) only [sB, initTm, Nat.reduceEqDiff, Nat.reduceAdd, reduceCtorEq, zm0]))
  refine (z5r hr hn h1 h2 hs hsb (by omega) hw).mono ?_
  rintro v H1 ⟨p1, q1, w1, rfl, o1, s1, u1, r1, k1⟩
  have p1n : p1 < n := by omega
  have q1n : q1 < n := by omega
  repeat' (first | refine EvC.seq ?_ | refine EvC.scope ?_ | refine EvC.block ?_ | (refine EvC.skip ?_) | (refine EvC.exit ?_) | (refine EvC.ret ?_; try simp only [z01, z00]) | (refine EvC.reg ?_; simp (config := { maxSteps := 2000000 }) (disch := first | omega | rfl) only [sB, Nat.reduceEqDiff, reduceCtorEq, zm0]) | (refine z0t ?_; simp (config := { maxSteps := 2000000 }) (disch := first | omega | rfl) only [sB, Nat.reduceEqDiff, reduceCtorEq]))
  refine (z5r r1 hn q1n h3 s1 hsb (by omega) k1.wf).mono ?_
  rintro v H2 ⟨p2, q2, w2, rfl, o2, s2, u2, r2, k2⟩
  have p2n : p2 < n := by omega
  repeat' (first | refine EvC.seq ?_ | refine EvC.scope ?_ | refine EvC.block ?_ | (refine EvC.skip ?_) | (refine EvC.exit ?_) | (refine EvC.ret ?_; try simp only [z01, z00]) | (refine EvC.reg ?_; simp (config := { maxSteps := 2000000 }) (disch := first | omega | rfl) only [sB, Nat.reduceEqDiff, reduceCtorEq, zm0]) | (refine z0t ?_; simp (config := { maxSteps := 2000000 }) (disch := first | omega | rfl) only [sB, Nat.reduceEqDiff, reduceCtorEq]))
  refine (z5r r2 hn p1n p2n s2 hsb (by omega) k2.wf).mono ?_
  rintro v H3 ⟨p3, q3, w3, rfl, o3, s3, u3, r3, k3⟩
  repeat' (first | refine EvC.seq ?_ | refine EvC.scope ?_ | refine EvC.block ?_ | (refine EvC.skip ?_) | (refine EvC.exit ?_) | (refine EvC.ret ?_; try simp only [z01, z00]) | (refine EvC.reg ?_; simp (config := { maxSteps := 2000000 }) (disch := first | omega | rfl) only [sB, Nat.reduceEqDiff, reduceCtorEq]) | (refine z0t ?_; simp (config := { maxSteps := 2000000 }) (disch := first | omega | rfl) only [sB, Nat.reduceEqDiff, reduceCtorEq]))
  exact z04 rfl (by simp only [sG, Nat.reduceEqDiff, reduceCtorEq] <;> rfl) ⟨q3, w3, rfl, by omega, s3, by omega, r3, k1.trans (k2.trans k3)⟩
set_option maxHeartbeats 4000000 in
theorem z3k {b n c x s w : Nat} {D : Nat → Bnd} {H : Heap} (hr : RowB H 59 b n D) (hn : n ≤ most) (h0 : 0 < x) (h1 : x + 1 < n) (hs : H.get s = some (.row [.int .i64 (w : Nat)] 3)) (hsb : s ≠ b) (hww : w ≤ 900) (hw : H.wf) :
    EvF Tryd.prog okT 134 [.slice (some ⟨b, 0, none⟩) n c, .int .i64 (x : Nat), .pointer (some ⟨s, 0, none⟩), cvB] H fun v H' =>
      ∃ p w' : Nat, v = .int .i64 (p : Nat) ∧ (x ≤ p + 1 ∧ p ≤ x + 1) ∧ H'.get s = some (.row [.int .i64 (w' : Nat)] 3) ∧ w' ≤ w + 3 ∧ RowB H' 59 b n D ∧ HK (· = s) H H' := by
  have hms : most ≤ 1048576 := by simp [most]
  refine EvF.enter rfl Tryd.func134 (by decide) rfl ?_
  have hw1 : IntKind.i64.wrap ((x : Int) - 1) = ((x - 1 : Nat) : Int) := by rw [z05 (by omega) (by omega)]; omega
  have hw2 : IntKind.i64.wrap ((x : Int) + 1) = ((x + 1 : Nat) : Int) := by rw [z05 (by omega) (by omega)]; omega
  repeat' (first | refine EvC.seq ?_ | refine EvC.scope ?_ | refine EvC.block ?_ | (refine EvC.skip ?_) | (refine EvC.exit ?_) | (refine EvC.ret ?_; try simp only [z01, z00]) | (refine EvC.reg ?_; simp (config := { maxSteps := 2000000 }) (disch := first | omega | rfl) only [sB, initTm, Nat.reduceEqDiff, Nat.reduceAdd, reduceCtorEq, znl, hw1, hw2]))
  refine (z8k hr hn (by omega) (by omega) h1 hs hsb hww hw).mono ?_
  rintro v H1 ⟨p1, w1, rfl, o1, s1, u1, r1, k1⟩
  repeat' (first | refine EvC.seq ?_ | refine EvC.scope ?_ | refine EvC.block ?_ | (refine EvC.skip ?_) | (refine EvC.exit ?_) | (refine EvC.ret ?_; try simp only [z01, z00]))
  exact z04 rfl (by simp only [sG, Nat.reduceEqDiff, reduceCtorEq] <;> rfl) ⟨p1, w1, rfl, by omega, s1, u1, r1, k1⟩
set_option maxHeartbeats 8000000 in
theorem zi5 {b n c a e : Nat} {D : Nat → Bnd} {H : Heap} (hr : RowB H 59 b n D) (hn : n ≤ most) (h1 : a + 12 < e) (h3 : e ≤ n) (hw : H.wf) :
    EvF Tryd.prog okT 116 [.slice (some ⟨b, 0, none⟩) n c, .int .i64 (a : Nat), .int .i64 (e : Nat), cvB] H fun v H' =>
      ∃ p : Nat, ∃ h : Int, v = .tuple ⟨[.int .i64 (p : Nat), .int .i64 h]⟩ ∧ a ≤ p ∧ p < e ∧ HX H H' := by
  have hms : most ≤ 1048576 := by simp [most]
  refine EvF.enter rfl Tryd.func116 (by decide) rfl ?_
  obtain ⟨cells0, hg0, -, -⟩ := hr.row
  have hbl := hw _ _ hg0
  have hwl : IntKind.i64.wrap ((e : Int) - (a : Int)) = ((e - a : Nat) : Int) := by rw [z05 (by omega) (by omega)]; omega
  generalize hl : e - a = l at *
  have hq : IntKind.i64.wrap (((l : Nat) : Int).tdiv 4) = ((l / 4 : Nat) : Int) := by rw [Int.tdiv_eq_ediv_of_nonneg (by omega), z05 (by omega) (by omega)]; omega
  have m1 : IntKind.i64.wrap (((l / 4 : Nat) : Int) * 1) = ((l / 4 : Nat) : Int) := by rw [z05 (by omega) (by omega)]; omega
  have m2 : IntKind.i64.wrap (((l / 4 : Nat) : Int) * 2) = ((l / 4 * 2 : Nat) : Int) := by rw [z05 (by omega) (by omega)]; omega
  have m3 : IntKind.i64.wrap (((l / 4 : Nat) : Int) * 3) = ((l / 4 * 3 : Nat) : Int) := by rw [z05 (by omega) (by omega)]; omega
  have a1 : IntKind.i64.wrap ((a : Int) + ((l / 4 : Nat) : Int)) = ((a + l / 4 : Nat) : Int) := by rw [z05 (by omega) (by omega)]; omega
  have a2 : IntKind.i64.wrap ((a : Int) + ((l / 4 * 2 : Nat) : Int)) = ((a + l / 4 * 2 : Nat) : Int) := by rw [z05 (by omega) (by omega)]; omega
  have a3 : IntKind.i64.wrap ((a : Int) + ((l / 4 * 3 : Nat) : Int)) = ((a + l / 4 * 3 : Nat) : Int) := by rw [z05 (by omega) (by omega)]; omega
  have d8 : decide (((l : Nat) : Int) ≥ 8) = true := decide_eq_true (by omega)
  have b1 : 0 < a + l / 4 ∧ a + l / 4 + 1 < n := by omega
  have b2 : 0 < a + l / 4 * 2 ∧ a + l / 4 * 2 + 1 < n := by omega
  have b3 : 0 < a + l / 4 * 3 ∧ a + l / 4 * 3 + 1 < n := by omega
  have c1 : a + 1 ≤ a + l / 4 ∧ a + l / 4 + 1 < e := by omega
  have c2 : a + 1 ≤ a + l / 4 * 2 ∧ a + l / 4 * 2 + 1 < e := by omega
  have c3 : a + 1 ≤ a + l / 4 * 3 ∧ a + l / 4 * 3 + 1 < e := by omega
  generalize a + l / 4 = i1 at *
  generalize a + l / 4 * 2 = i2 at *
  generalize a + l / 4 * 3 = i3 at *
  (repeat refine EvC.seq ?_); refine EvC.reg ?_; simp (config := { maxSteps := 2000000 }) (disch := first | omega | rfl) only [sA, initTm, Nat.reduceAdd]
  (repeat refine EvC.seq ?_); refine EvC.reg ?_; simp (config := { maxSteps := 2000000 }) (disch := first | omega | rfl) only [sB, Nat.reduceEqDiff, reduceCtorEq, hwl]
  (repeat refine EvC.seq ?_); refine EvC.reg ?_; simp (config := { maxSteps := 2000000 }) (disch := first | omega | rfl) only [sA, dAlloc, zr3]
  obtain ⟨H1, e1, hx1, g1, hn1, hw1⟩ := new1 hw (.row [.int .i64 0] 3)
  simp only [e1]
  clear e1
  have r1 := hr.heap (hx1.keep b hbl)
  (repeat refine EvC.seq ?_); refine EvC.reg ?_; simp (config := { maxSteps := 2000000 }) (disch := first | omega | rfl) only [sB, Nat.reduceEqDiff, reduceCtorEq, hq, bQuo, m1, a1]
  (repeat refine EvC.seq ?_); refine EvC.reg ?_; simp (config := { maxSteps := 2000000 }) (disch := first | omega | rfl) only [sB, Nat.reduceEqDiff, reduceCtorEq, hq, bQuo, m2, a2]
  (repeat refine EvC.seq ?_); refine EvC.reg ?_; simp (config := { maxSteps := 2000000 }) (disch := first | omega | rfl) only [sB, Nat.reduceEqDiff, reduceCtorEq, hq, bQuo, m3, a3]
  (repeat refine EvC.seq ?_); refine EvC.reg ?_; simp (config := { maxSteps := 2000000 }) (disch := first | omega | rfl) only [sB, Nat.reduceEqDiff, reduceCtorEq, d8]
  have hsb : H.next ≠ b := by omega
  refine EvC.meet (fun st => ∃ (tm : Tr Value) (H' : Heap) (p w : Nat), st = ⟨tm, [], H'⟩ ∧ a ≤ p ∧ p < e ∧ tm.get 13 = some (.int .i64 (p : Nat)) ∧ tm.get 11 = some (.pointer (some ⟨H.next, 0, none⟩)) ∧ H'.get H.next = some (.row [.int .i64 (w : Nat)] 3) ∧ HX H H') ?_ ?_
  · (repeat refine EvC.seq ?_); refine EvC.condT (by simp (config := { maxSteps := 2000000 }) (disch := first | omega | rfl) only [sB, Nat.reduceEqDiff, reduceCtorEq]) ?_; (try refine EvC.skip ?_); (try simp only [z02, z09])
    refine EvC.cut (fun st => ∃ (tm : Tr Value) (H' : Heap) (p q r w : Nat), st = ⟨tm, [], H'⟩ ∧ (a ≤ p ∧ p < e) ∧ (a ≤ q ∧ q < e) ∧ (a ≤ r ∧ r < e) ∧ w ≤ 9 ∧ tm.get 0 = some (.slice (some ⟨b, 0, none⟩) n c) ∧ tm.get 3 = some cvB ∧ tm.get 12 = some (.int .i64 (p : Nat)) ∧ tm.get 13 = some (.int .i64 (q : Nat)) ∧ tm.get 14 = some (.int .i64 (r : Nat)) ∧
      tm.get 11 = some (.pointer (some ⟨H.next, 0, none⟩)) ∧ H'.get H.next = some (.row [.int .i64 (w : Nat)] 3) ∧ RowB H' 59 b n D ∧ HK (· = H.next) H1 H') ?_ ?_
    · by_cases h50 : 50 ≤ l
      · have d50 : decide (((l : Nat) : Int) ≥ 50) = true := decide_eq_true (by omega)
        repeat' (first | refine EvC.seq ?_ | refine EvC.scope ?_ | refine EvC.block ?_ | (refine EvC.skip ?_) | (refine EvC.exit ?_) | (refine EvC.ret ?_; try simp only [z01, z00]) | (refine EvC.reg ?_; simp (config := { maxSteps := 2000000 }) (disch := first | omega | rfl) only [sB, Nat.reduceEqDiff, reduceCtorEq, zlv, d50]) | (refine EvC.condT ?_ ?_; simp (config := { maxSteps := 2000000 }) (disch := first | omega | rfl) only [sB, Nat.reduceEqDiff, reduceCtorEq]; refine z03 ?_))
        refine (z3k r1 hn b1.1 b1.2 (w := 0) g1 hsb (by omega) hw1).mono ?_
        rintro v H2 ⟨p2, w2, rfl, o2, g2, u2, r2, k2⟩
        repeat' (first | refine EvC.seq ?_ | refine EvC.scope ?_ | refine EvC.block ?_ | (refine EvC.skip ?_) | (refine EvC.exit ?_) | (refine EvC.ret ?_; try simp only [z01, z00]) | (refine EvC.reg ?_; simp (config := { maxSteps := 2000000 }) (disch := first | omega | rfl) only [sB, Nat.reduceEqDiff, reduceCtorEq, zlv]))
        refine (z3k r2 hn b2.1 b2.2 g2 hsb (by omega) k2.wf).mono ?_
        rintro v H3 ⟨p3, w3, rfl, o3, g3, u3, r3, k3⟩
        repeat' (first | refine EvC.seq ?_ | refine EvC.scope ?_ | refine EvC.block ?_ | (refine EvC.skip ?_) | (refine EvC.exit ?_) | (refine EvC.ret ?_; try simp only [z01, z00]) | (refine EvC.reg ?_; simp (config := { maxSteps := 2000000 }) (disch := first | omega | rfl) only [sB, Nat.reduceEqDiff, reduceCtorEq, zlv]))
        refine (z3k r3 hn b3.1 b3.2 g3 hsb (by omega) k3.wf).mono ?_
        rintro v H4 ⟨p4, w4, rfl, o4, g4, u4, r4, k4⟩
        repeat' (first | refine EvC.seq ?_ | refine EvC.scope ?_ | refine EvC.block ?_ | (refine EvC.skip ?_) | (refine EvC.exit ?_) | (refine EvC.ret ?_; try simp only [z01, z00]))
        exact ⟨_, _, p2, p3, p4, w4, rfl, by omega, by omega, by omega, by omega, (by simp only [sG, reduceCtorEq] <;> rfl), (by simp only [sG, Nat.reduceEqDiff, reduceCtorEq] <;> rfl), (by simp only [sG, Nat.reduceEqDiff, reduceCtorEq] <;> rfl), (by simp only [sG, Nat.reduceEqDiff, reduceCtorEq] <;> rfl), (by simp only [sG, Nat.reduceEqDiff, reduceCtorEq] <;> rfl), (by simp only [sG, Nat.reduceEqDiff, reduceCtorEq] <;> rfl), g4, r4, k2.trans (k3.trans k4)⟩
      · have d50 : decide (((l : Nat) : Int) ≥ 50) = false := decide_eq_false (by omega)
        repeat' (first | refine EvC.seq ?_ | refine EvC.scope ?_ | refine EvC.block ?_ | (refine EvC.skip ?_; try simp only [true_and]) | (refine EvC.exit ?_) | (refine EvC.ret ?_; try simp only [z01, z00]) | (refine EvC.reg ?_; simp (config := { maxSteps := 2000000 }) (disch := first | omega | rfl) only [sB, Nat.reduceEqDiff, reduceCtorEq, d50]) | (refine EvC.condT ?_ ?_; simp (config := { maxSteps := 2000000 }) (disch := first | omega | rfl) only [sB, Nat.reduceEqDiff, reduceCtorEq]; refine z03 ?_) | (refine EvC.condF ?_ ?_; simp (config := { maxSteps := 2000000 }) (disch := first | omega | rfl) only [sB, Nat.reduceEqDiff, reduceCtorEq]; refine z03 ?_))
        exact ⟨_, _, i1, i2, i3, 0, rfl, by omega, by omega, by omega, by omega, (by simp only [sG, reduceCtorEq] <;> rfl), (by simp only [sG, Nat.reduceEqDiff, reduceCtorEq] <;> rfl), (by simp only [sG, Nat.reduceEqDiff, reduceCtorEq] <;> rfl), (by simp only [sG, Nat.reduceEqDiff, reduceCtorEq] <;> rfl), (by simp only [sG, Nat.reduceEqDiff, reduceCtorEq] <;> rfl), (by simp only [sG, Nat.reduceEqDiff, reduceCtorEq] <;> rfl), g1, r1, HK.refl hw1⟩
    · rintro st ⟨tm, H2, p, q, r, w, rfl, hp, hq2, hr3, hw9, t0, t3, t12, t13, t14, t11, g2, r2, k2⟩
      repeat' (first | refine EvC.seq ?_ | refine EvC.scope ?_ | refine EvC.block ?_ | (refine EvC.skip ?_) | (refine EvC.exit ?_) | (refine EvC.ret ?_; try simp only [z01, z00]) | (refine EvC.reg ?_; simp (config := { maxSteps := 2000000 }) (disch := first | omega | rfl) only [sB, Nat.reduceEqDiff, znl, t0, t3, t11, t12, t13, t14]))
      refine (z8k r2 hn (by omega) (by omega) (by omega) g2 hsb (by omega) k2.wf).mono ?_
      rintro v H3 ⟨p3, w3, rfl, o3, g3, u3, r3, k3⟩
      repeat' (first | refine EvC.seq ?_ | refine EvC.scope ?_ | refine EvC.block ?_ | (refine EvC.skip ?_) | (refine EvC.exit ?_) | (refine EvC.ret ?_; try simp only [z01, z00]))
      exact ⟨_, _, p3, w3, rfl, by omega, by omega, (by simp only [sG, Nat.reduceEqDiff] <;> rfl), (by simp only [sG, Nat.reduceEqDiff, t11] <;> rfl), g3, (hx1.then (k2.trans k3) fun m hm => by omega)⟩
  · rintro st ⟨tm, H2, p, w, rfl, hp1, hp2, t13, t11, g2, hx2⟩
    have ls : H2.load ⟨H.next, 0, none⟩ 1 = some [.int .i64 (w : Nat)] := by simp only [Heap.load, Heap.cells, g2]; rfl
    (repeat refine EvC.seq ?_); refine EvC.reg ?_; simp (config := { maxSteps := 2000000 }) (disch := first | omega | rfl) only [sA, ld3, t11, ls]
    by_cases w0 : w = 0
    · have : ((w : Int) == 0) = true := by rw [w0]; rfl
      repeat' (first | refine EvC.seq ?_ | refine EvC.scope ?_ | refine EvC.block ?_ | (refine EvC.skip ?_) | (refine EvC.exit ?_) | (refine EvC.ret ?_; try simp only [z01, z00]) | (refine EvC.reg ?_; simp (config := { maxSteps := 2000000 }) (disch := first | omega | rfl) only [sB, Nat.reduceEqDiff, t13, this]) | (refine EvC.condT ?_ ?_; simp (config := { maxSteps := 2000000 }) (disch := first | omega | rfl) only [sB, Nat.reduceEqDiff]; refine z03 ?_))
      exact z1k rfl (by simp only [sG, Nat.reduceEqDiff] <;> rfl) (by simp only [sB, Nat.reduceEqDiff] <;> rfl) ⟨p, _, rfl, hp1, hp2, hx2⟩
    · have d0 : ((w : Int) == 0) = false := z0x (by omega)
      by_cases w12 : w = 12
      · have : ((w : Int) == 12) = true := by rw [w12]; rfl
        repeat' (first | refine EvC.seq ?_ | refine EvC.scope ?_ | refine EvC.block ?_ | (refine EvC.skip ?_) | (refine EvC.exit ?_) | (refine EvC.ret ?_; try simp only [z01, z00]) | (refine EvC.reg ?_; simp (config := { maxSteps := 2000000 }) (disch := first | omega | rfl) only [sB, Nat.reduceEqDiff, t13, d0, this]) | (refine EvC.condT ?_ ?_; simp (config := { maxSteps := 2000000 }) (disch := first | omega | rfl) only [sB, Nat.reduceEqDiff]; refine z03 ?_) | (refine EvC.condF ?_ ?_; simp (config := { maxSteps := 2000000 }) (disch := first | omega | rfl) only [sB, Nat.reduceEqDiff]; refine z03 ?_))
        exact z1k rfl (by simp only [sG, Nat.reduceEqDiff] <;> rfl) (by simp only [sB, Nat.reduceEqDiff] <;> rfl) ⟨p, _, rfl, hp1, hp2, hx2⟩
      · have d1 : ((w : Int) == 12) = false := z0x (by omega)
        repeat' (first | refine EvC.seq ?_ | refine EvC.scope ?_ | refine EvC.block ?_ | (refine EvC.skip ?_) | (refine EvC.exit ?_) | (refine EvC.ret ?_; try simp only [z01, z00]) | (refine EvC.reg ?_; simp (config := { maxSteps := 2000000 }) (disch := first | omega | rfl) only [sB, Nat.reduceEqDiff, t13, d0, d1]) | (refine EvC.condT ?_ ?_; simp (config := { maxSteps := 2000000 }) (disch := first | omega | rfl) only [sB, Nat.reduceEqDiff]; refine z03 ?_) | (refine EvC.condF ?_ ?_; simp (config := { maxSteps := 2000000 }) (disch := first | omega | rfl) only [sB, Nat.reduceEqDiff]; refine z03 ?_))
        exact z1k rfl (by simp only [sG, Nat.reduceEqDiff] <;> rfl) (by simp only [sB, Nat.reduceEqDiff] <;> rfl) ⟨p, _, rfl, hp1, hp2, hx2⟩
end Go.Proofs.YtlllbkjiadcloaaDoor.hb
end

-- Pd6
section
namespace Go.Hb
theorem z8l {α : Type} {i j : Nat} {D : Nat → α} : swF i j D i = D j := by unfold swF; rw [if_pos rfl]
theorem zeh {α : Type} {i j : Nat} {D : Nat → α} : swF i j D j = D i := by
  unfold swF
  by_cases h : j = i
  · rw [if_pos h, h]
  · rw [if_neg h, if_pos rfl]
theorem zbe {α : Type} {i j k : Nat} {D : Nat → α} (h1 : k ≠ i) (h2 : k ≠ j) : swF i j D k = D k := by unfold swF; rw [if_neg h1, if_neg h2]
end Go.Hb
namespace Go.Proofs.YtlllbkjiadcloaaDoor.hb
open Go Go.RowKit Go.Hb
variable {ok : Ok}
set_option maxRecDepth 10000
attribute [local irreducible] LX LG EL STG SOP SGO SGD SAL SRD SEF SEG SLK SCK ES
set_option maxHeartbeats 16000000 in
theorem zfq {b n c a e p : Nat} {D : Nat → Bnd} {H : Heap} (hr : RowB H 59 b n D) (hn : n ≤ most) (hap : a ≤ p) (hpe : p < e) (h3 : e ≤ n) (hw : H.wf) :
    EvF Tryd.prog okT 119 [.slice (some ⟨b, 0, none⟩) n c, .int .i64 (a : Nat), .int .i64 (e : Nat), .int .i64 (p : Nat), cvB] H fun v H' =>
      ∃ (m : Nat) (D' : Nat → Bnd), v = .int .i64 (m : Nat) ∧ a + 1 ≤ m ∧ m ≤ e ∧ RowB H' 59 b n D' ∧ Pm a e D D' ∧ (∀ k, a ≤ k → k < m → (D' k).v ≤ (D p).v) ∧ (∀ k, m ≤ k → k < e → (D p).v < (D' k).v) ∧ HK (· = b) H H' := by
  have hms : most ≤ 1048576 := by simp [most]
  have hg := z2l
  have hk := HK.refl (S := (· = b)) hw
  refine EvF.enter rfl Tryd.func119 (by decide) rfl ?_
  have hw1 : IntKind.i64.wrap ((a : Int) + 1) = ((a + 1 : Nat) : Int) := by rw [z05 (by omega) (by omega)]; omega
  have hw2 : IntKind.i64.wrap ((e : Int) - 1) = ((e - 1 : Nat) : Int) := by rw [z05 (by omega) (by omega)]; omega
  have k1 : a < n := by omega
  have k2 : p < n := by omega
  have l1 := hr.load k1
  have l2 := hr.load k2
  obtain ⟨cells, hg2, hl, he⟩ := hr.row
  have hbl2 := hk.wf _ _ hg2
  have le1 : a * 7 + 7 ≤ cells.length := by have := mul7 k1; omega
  have le2 : p * 7 + 7 ≤ cells.length := by have := mul7 k2; omega
  have hsw := fun H1 h2 => RowB.swap (H := H) (b := b) (T := 59) hl he k1 k2 H1 h2
  have ms := Pm.swap (a := a) (b := e) (i := a) (j := p) (D := D) (by omega) (by omega) (by omega) (by omega)
  have ha : swF a p D a = D p := z8l
  generalize hE1 : D a = E1 at hl he hsw l1 l2 ha
  generalize hE2 : D p = E2 at hl he hsw l1 l2 ha
  have le3 : p * 7 + 7 ≤ (Hb.splice cells (a * 7) E2.seven).length := by rw [z0e (vs := E2.seven) le1]; exact le2
  (repeat refine EvC.seq ?_); refine EvC.reg ?_; simp (config := { maxSteps := 2000000 }) (disch := first | omega | rfl) only [sA, initTm, Nat.reduceAdd]
  refine EvC.cut (fun st => ∃ tm H1, st = ⟨tm, [], H1⟩ ∧ tm.get 0 = some (.slice (some ⟨b, 0, none⟩) n c) ∧ tm.get 1 = some (.int .i64 (a : Nat)) ∧ tm.get 4 = some cvB ∧ tm.get 2 = some (.int .i64 (e : Nat)) ∧ RowB H1 59 b n (swF a p D) ∧ HK (· = b) H H1) ?_ ?_
  · repeat' (first | refine EvC.seq ?_ | refine EvC.scope ?_ | refine EvC.block ?_ | (refine EvC.skip ?_) | (refine EvC.exit ?_) | (refine EvC.ret ?_; try simp only [z01, z00]) | (refine EvC.drw (id := 1) [([(0, 0), (1, 0), (4, 0), (5, 0), (6, 0), (7, 0), (8, 0), (9, 0), (10, 0), (11, 0), (12, 0)], some 13), ([(2, 0), (3, 0), (14, 1)], some 15), ([], none)] ?_ ?_; kernel_rfl; simp (config := { maxSteps := 2000000 }) (disch := first | omega | rfl) only [sV, sD, sB, Nat.reduceEqDiff, Nat.reduceAdd, one, reduceCtorEq, ia57, ld59, st59, l1, l2, hg2, le1, le3, isAlloc, isRead, reduceCtorEq]))
    exact ⟨_, _, rfl, (by simp only [sG, reduceCtorEq] <;> rfl), (by simp only [sG, Nat.reduceEqDiff, reduceCtorEq] <;> rfl), (by simp only [sG, Nat.reduceEqDiff, reduceCtorEq] <;> rfl), (by simp only [sG, Nat.reduceEqDiff, reduceCtorEq] <;> rfl), hsw _ (by rw [get_put, if_pos rfl]), hk.two hbl2 _ _ _⟩
  rintro st ⟨tm, H1, rfl, t0, t1, t4, t2, r1, hk1⟩
  (repeat refine EvC.seq ?_); refine EvC.reg ?_; simp (config := { maxSteps := 2000000 }) (disch := first | omega | rfl) only [sB, Nat.reduceEqDiff, t1, t2, hw1, hw2]
  clear hsw l1 l2 hl he hg2 le1 le2 le3 k1 k2 hE1 hE2
  generalize hDD : swF a p D = D1 at *
  (repeat refine EvC.seq ?_)
  refine EvC.block (EvC.loop (fun k st => ∃ tm H' i j D', st = ⟨tm, [], H'⟩ ∧ k = j + 1 - i ∧ a + 1 ≤ i ∧ i ≤ j + 1 ∧ j < e ∧ (∀ k, a + 1 ≤ k → k < i → ¬ (D1 a).v < (D' k).v) ∧ (∀ k, j < k → k < e → (D1 a).v < (D' k).v) ∧ D' a = D1 a ∧ tm.get 0 = some (.slice (some ⟨b, 0, none⟩) n c) ∧ tm.get 1 = some (.int .i64 (a : Nat)) ∧ tm.get 4 = some cvB ∧ tm.get 11 = some (.int .i64 (i : Nat)) ∧ tm.get 12 = some (.int .i64 (j : Nat)) ∧ RowB H' 59 b n D' ∧ Pm a e D D' ∧ HK (· = b) H H') ?_ (e - 1 + 1 - (a + 1)) _ ?_)
  · rintro k st ⟨tm, H0, i0, j0, D2, rfl, rfl, hi1, hij0, hje, hlo, hhi, haa, t0, t1, t4, ti, tj, hr0, hm, hk0⟩
    (repeat refine EvC.seq ?_)
    refine EvC.block ?_
    refine EvC.cut (fun st => ∃ tm H' i, st = ⟨tm, [], H'⟩ ∧ i0 ≤ i ∧ i ≤ j0 + 1 ∧ (∀ k, i0 ≤ k → k < i → ¬ (D2 a).v < (D2 k).v) ∧ (i ≤ j0 → ¬ (¬ (D2 a).v < (D2 i).v)) ∧ tm.get 0 = some (.slice (some ⟨b, 0, none⟩) n c) ∧ tm.get 1 = some (.int .i64 (a : Nat)) ∧ tm.get 4 = some cvB ∧ tm.get 11 = some (.int .i64 (i : Nat)) ∧ tm.get 12 = some (.int .i64 (j0 : Nat)) ∧ RowB H' 59 b n D2 ∧ HK (· = b) H H') ?_ ?_
    · refine EvC.block (EvC.loop (fun k st => ∃ tm H' i, st = ⟨tm, [], H'⟩ ∧ k = j0 + 1 - i ∧ i0 ≤ i ∧ i ≤ j0 + 1 ∧ (∀ k, i0 ≤ k → k < i → ¬ (D2 a).v < (D2 k).v) ∧ tm.get 0 = some (.slice (some ⟨b, 0, none⟩) n c) ∧ tm.get 1 = some (.int .i64 (a : Nat)) ∧ tm.get 4 = some cvB ∧ tm.get 11 = some (.int .i64 (i : Nat)) ∧ tm.get 12 = some (.int .i64 (j0 : Nat)) ∧ RowB H' 59 b n D2 ∧ HK (· = b) H H') ?_ (j0 + 1 - i0) _ ?_)
      · rintro k st ⟨tm, H', i, rfl, rfl, hi0, hij, hpa, t0, t1, t4, ti, tj, hr', hk'⟩
        by_cases hle : i ≤ j0
        · have hd : decide (((i : Nat) : Int) ≤ ((j0 : Nat) : Int)) = true := decide_eq_true (by omega)
          have hwv : IntKind.i64.wrap ((i : Int) + 1) = ((i + 1 : Nat) : Int) := by rw [z05 (by omega) (by omega)]; omega
          have k1 : i < n := by omega
          have k2 : a < n := by omega
          have l1 := hr'.load k1
          have l2 := hr'.load k2
          have hb := hk'.bump 17
          repeat' (first | refine EvC.seq ?_ | refine EvC.scope ?_ | refine EvC.block ?_ | (refine EvC.skip ?_) | (refine EvC.exit ?_) | (refine EvC.ret ?_; try simp only [z01, z00]) | (refine EvC.drw (id := 3) [([(0, 0), (1, 0), (2, 0), (3, 0), (4, 0), (5, 0), (6, 0), (7, 0), (8, 0), (9, 0), (10, 0), (11, 0), (12, 0)], some 13), ([(14, 1), (15, 1), (16, 1)], none)] ?_ ?_; kernel_rfl; simp (config := { maxSteps := 2000000 }) (disch := first | omega | rfl) only [sD, sB, Nat.reduceEqDiff, Nat.reduceAdd, reduceCtorEq, ia57, ld59, t0, t1, t4, ti, tj, hd, l1, l2, z0o, z0f hg, isAlloc, isRead, reduceCtorEq]))
          obtain ⟨cells0, hg0, -, -⟩ := hr'.row
          have hbl := hk'.wf _ _ hg0
          refine (z1t hb.wf).mono ?_
          rintro v H2 ⟨rfl, hx2⟩
          have hk2 := hb.hxs hx2
          have r2 := hr'.heap (H' := H2) (by rw [hx2.keep b (Nat.lt_add_right _ hbl)]; rfl)
          by_cases hc : (D2 a).v < (D2 i).v
          · repeat' (first | refine EvC.seq ?_ | refine EvC.scope ?_ | refine EvC.block ?_ | (refine EvC.skip ?_) | (refine EvC.exit ?_; try simp only [sB, reduceCtorEq]) | (refine EvC.ret ?_; try simp only [z01, z00]) | (refine z0h ?_; simp (config := { maxSteps := 2000000 }) (disch := first | omega | rfl) only [sD, sB, Nat.reduceEqDiff, cz_t hc, Bool.not_true, isAlloc, isRead]) | (refine EvC.condT ?_ ?_; simp (config := { maxSteps := 2000000 }) (disch := first | omega | rfl) only [sB, Nat.reduceEqDiff]; refine z03 ?_) | (refine EvC.condF ?_ ?_; simp (config := { maxSteps := 2000000 }) (disch := first | omega | rfl) only [sB, Nat.reduceEqDiff]; refine z03 ?_))
            exact ⟨_, _, i, rfl, hi0, hij, hpa, fun _ => by omega, (by simp only [sG, reduceCtorEq, t0] <;> rfl), (by simp only [sG, Nat.reduceEqDiff, t1] <;> rfl), (by simp only [sG, Nat.reduceEqDiff, t4] <;> rfl), (by simp only [sG, Nat.reduceEqDiff, ti] <;> rfl), (by simp only [sG, Nat.reduceEqDiff, tj] <;> rfl), r2, hk2⟩
          · repeat' (first | refine EvC.seq ?_ | refine EvC.scope ?_ | refine EvC.block ?_ | (refine EvC.skip ?_; try simp only [z02]) | (refine EvC.exit ?_) | (refine EvC.ret ?_; try simp only [z01, z00]) | (refine EvC.reg ?_; simp (config := { maxSteps := 2000000 }) (disch := first | omega | rfl) only [sB, Nat.reduceEqDiff, ti, hwv]) | (refine z0h ?_; simp (config := { maxSteps := 2000000 }) (disch := first | omega | rfl) only [sD, sB, Nat.reduceEqDiff, cz_f hc, Bool.not_false, isAlloc, isRead]) | (refine EvC.condT ?_ ?_; simp (config := { maxSteps := 2000000 }) (disch := first | omega | rfl) only [sB, Nat.reduceEqDiff]; refine z03 ?_))
            exact ⟨j0 + 1 - (i + 1), by omega, _, _, i + 1, rfl, rfl, by omega, by omega, fun k q1 q2 => by
              by_cases e : k = i
              · subst e; omega
              · exact hpa k q1 (by omega), (by simp only [sG, reduceCtorEq, t0] <;> rfl), (by simp only [sG, Nat.reduceEqDiff, t1] <;> rfl), (by simp only [sG, Nat.reduceEqDiff, t4] <;> rfl), (by simp only [sG, Nat.reduceEqDiff] <;> rfl), (by simp only [sG, Nat.reduceEqDiff, tj] <;> rfl), r2, hk2⟩
        · have hd : decide (((i : Nat) : Int) ≤ ((j0 : Nat) : Int)) = false := decide_eq_false (by omega)
          repeat' (first | refine EvC.seq ?_ | refine EvC.scope ?_ | refine EvC.block ?_ | (refine EvC.skip ?_) | (refine EvC.exit ?_; try simp only [sB, reduceCtorEq]) | (refine EvC.ret ?_; try simp only [z01, z00]) | (refine EvC.drw (id := 3) [([(0, 0), (1, 0), (2, 0), (3, 0), (4, 0), (5, 0), (6, 0), (7, 0), (8, 0), (9, 0), (10, 0), (11, 0), (12, 0)], some 13), ([(14, 1), (15, 1), (16, 1)], none)] ?_ ?_; kernel_rfl; simp (config := { maxSteps := 2000000 }) (disch := first | omega | rfl) only [sD, sB, Nat.reduceEqDiff, Nat.reduceAdd, ti, tj, hd, Bool.false_eq_true, isAlloc, isRead]) | (refine EvC.condT ?_ ?_; simp (config := { maxSteps := 2000000 }) (disch := first | omega | rfl) only [sB, Nat.reduceEqDiff]; refine z03 ?_) | (refine EvC.condF ?_ ?_; simp (config := { maxSteps := 2000000 }) (disch := first | omega | rfl) only [sB, Nat.reduceEqDiff]; refine z03 ?_))
          exact ⟨_, _, i, rfl, hi0, hij, hpa, fun h => absurd h hle, (by simp only [sG, reduceCtorEq, t0] <;> rfl), (by simp only [sG, Nat.reduceEqDiff, t1] <;> rfl), (by simp only [sG, Nat.reduceEqDiff, t4] <;> rfl), (by simp only [sG, Nat.reduceEqDiff, ti] <;> rfl), (by simp only [sG, Nat.reduceEqDiff, tj] <;> rfl), hr'.heap rfl, hk'.bump _⟩
      · exact ⟨_, _, i0, rfl, rfl, Nat.le_refl _, by omega, fun k q1 q2 => by omega, (by simp only [t0] <;> rfl), (by simp only [t1] <;> rfl), (by simp only [t4] <;> rfl), (by simp only [ti] <;> rfl), (by simp only [tj] <;> rfl), hr0, hk0⟩
    rintro st ⟨tm, H3, i, rfl, hi2, hi3, hi4, hi5, t0, t1, t4, ti, tj, hr3, hk3⟩
    refine EvC.cut (fun st => ∃ tm H' j, st = ⟨tm, [], H'⟩ ∧ j ≤ j0 ∧ i ≤ j + 1 ∧ (∀ k, j < k → k ≤ j0 → (D2 a).v < (D2 k).v) ∧ (i ≤ j → ¬ ((D2 a).v < (D2 j).v)) ∧ tm.get 0 = some (.slice (some ⟨b, 0, none⟩) n c) ∧ tm.get 1 = some (.int .i64 (a : Nat)) ∧ tm.get 4 = some cvB ∧ tm.get 11 = some (.int .i64 (i : Nat)) ∧ tm.get 12 = some (.int .i64 (j : Nat)) ∧ RowB H' 59 b n D2 ∧ HK (· = b) H H') ?_ ?_
    · refine EvC.block (EvC.loop (fun k st => ∃ tm H' j, st = ⟨tm, [], H'⟩ ∧ k = j + 1 - i ∧ j ≤ j0 ∧ i ≤ j + 1 ∧ (∀ k, j < k → k ≤ j0 → (D2 a).v < (D2 k).v) ∧ tm.get 0 = some (.slice (some ⟨b, 0, none⟩) n c) ∧ tm.get 1 = some (.int .i64 (a : Nat)) ∧ tm.get 4 = some cvB ∧ tm.get 11 = some (.int .i64 (i : Nat)) ∧ tm.get 12 = some (.int .i64 (j : Nat)) ∧ RowB H' 59 b n D2 ∧ HK (· = b) H H') ?_ (j0 + 1 - i) _ ?_)
      · rintro k st ⟨tm, H', j, rfl, rfl, hj0, hij, hpa, t0, t1, t4, ti, tj, hr', hk'⟩
        by_cases hle : i ≤ j
        · have hd : decide (((i : Nat) : Int) ≤ ((j : Nat) : Int)) = true := decide_eq_true (by omega)
          have hwv : IntKind.i64.wrap ((j : Int) - 1) = ((j - 1 : Nat) : Int) := by rw [z05 (by omega) (by omega)]; omega
          have k1 : j < n := by omega
          have k2 : a < n := by omega
          have l1 := hr'.load k1
          have l2 := hr'.load k2
          have hb := hk'.bump 16
          repeat' (first | refine EvC.seq ?_ | refine EvC.scope ?_ | refine EvC.block ?_ | (refine EvC.skip ?_) | (refine EvC.exit ?_) | (refine EvC.ret ?_; try simp only [z01, z00]) | (refine EvC.drw (id := 5) [([(0, 0), (1, 0), (2, 0), (3, 0), (4, 0), (5, 0), (6, 0), (7, 0), (8, 0), (9, 0), (10, 0), (11, 0), (12, 0)], some 13), ([(14, 1), (15, 1)], none)] ?_ ?_; kernel_rfl; simp (config := { maxSteps := 2000000 }) (disch := first | omega | rfl) only [sD, sB, Nat.reduceEqDiff, Nat.reduceAdd, reduceCtorEq, ia57, ld59, t0, t1, t4, ti, tj, hd, l1, l2, z0o, z0f hg, isAlloc, isRead, reduceCtorEq]))
          obtain ⟨cells0, hg0, -, -⟩ := hr'.row
          have hbl := hk'.wf _ _ hg0
          refine (z1t hb.wf).mono ?_
          rintro v H2 ⟨rfl, hx2⟩
          have hk2 := hb.hxs hx2
          have r2 := hr'.heap (H' := H2) (by rw [hx2.keep b (Nat.lt_add_right _ hbl)]; rfl)
          by_cases hc : (D2 a).v < (D2 j).v
          · repeat' (first | refine EvC.seq ?_ | refine EvC.scope ?_ | refine EvC.block ?_ | (refine EvC.skip ?_; try simp only [z02]) | (refine EvC.exit ?_) | (refine EvC.ret ?_; try simp only [z01, z00]) | (refine EvC.reg ?_; simp (config := { maxSteps := 2000000 }) (disch := first | omega | rfl) only [sB, Nat.reduceEqDiff, tj, hwv]) | (refine z0h ?_; simp (config := { maxSteps := 2000000 }) (disch := first | omega | rfl) only [sD, sB, Nat.reduceEqDiff, cz_t hc, isAlloc, isRead]) | (refine EvC.condT ?_ ?_; simp (config := { maxSteps := 2000000 }) (disch := first | omega | rfl) only [sB, Nat.reduceEqDiff]; refine z03 ?_))
            exact ⟨j - 1 + 1 - i, by omega, _, _, j - 1, rfl, rfl, by omega, by omega, fun k q1 q2 => by
              by_cases e : k = j
              · subst e; omega
              · exact hpa k (by omega) q2, (by simp only [sG, reduceCtorEq, t0] <;> rfl), (by simp only [sG, Nat.reduceEqDiff, t1] <;> rfl), (by simp only [sG, Nat.reduceEqDiff, t4] <;> rfl), (by simp only [sG, Nat.reduceEqDiff, ti] <;> rfl), (by simp only [sG, Nat.reduceEqDiff] <;> rfl), r2, hk2⟩
          · repeat' (first | refine EvC.seq ?_ | refine EvC.scope ?_ | refine EvC.block ?_ | (refine EvC.skip ?_) | (refine EvC.exit ?_; try simp only [sB, reduceCtorEq]) | (refine EvC.ret ?_; try simp only [z01, z00]) | (refine z0h ?_; simp (config := { maxSteps := 2000000 }) (disch := first | omega | rfl) only [sD, sB, Nat.reduceEqDiff, cz_f hc, isAlloc, isRead]) | (refine EvC.condT ?_ ?_; simp (config := { maxSteps := 2000000 }) (disch := first | omega | rfl) only [sB, Nat.reduceEqDiff]; refine z03 ?_) | (refine EvC.condF ?_ ?_; simp (config := { maxSteps := 2000000 }) (disch := first | omega | rfl) only [sB, Nat.reduceEqDiff]; refine z03 ?_))
            exact ⟨_, _, j, rfl, hj0, hij, hpa, fun _ => by omega, (by simp only [sG, reduceCtorEq, t0] <;> rfl), (by simp only [sG, Nat.reduceEqDiff, t1] <;> rfl), (by simp only [sG, Nat.reduceEqDiff, t4] <;> rfl), (by simp only [sG, Nat.reduceEqDiff, ti] <;> rfl), (by simp only [sG, Nat.reduceEqDiff, tj] <;> rfl), r2, hk2⟩
        · have hd : decide (((i : Nat) : Int) ≤ ((j : Nat) : Int)) = false := decide_eq_false (by omega)
          repeat' (first | refine EvC.seq ?_ | refine EvC.scope ?_ | refine EvC.block ?_ | (refine EvC.skip ?_) | (refine EvC.exit ?_; try simp only [sB, reduceCtorEq]) | (refine EvC.ret ?_; try simp only [z01, z00]) | (refine EvC.drw (id := 5) [([(0, 0), (1, 0), (2, 0), (3, 0), (4, 0), (5, 0), (6, 0), (7, 0), (8, 0), (9, 0), (10, 0), (11, 0), (12, 0)], some 13), ([(14, 1), (15, 1)], none)] ?_ ?_; kernel_rfl; simp (config := { maxSteps := 2000000 }) (disch := first | omega | rfl) only [sD, sB, Nat.reduceEqDiff, Nat.reduceAdd, ti, tj, hd, Bool.false_eq_true, isAlloc, isRead]) | (refine EvC.condT ?_ ?_; simp (config := { maxSteps := 2000000 }) (disch := first | omega | rfl) only [sB, Nat.reduceEqDiff]; refine z03 ?_) | (refine EvC.condF ?_ ?_; simp (config := { maxSteps := 2000000 }) (disch := first | omega | rfl) only [sB, Nat.reduceEqDiff]; refine z03 ?_))
          exact ⟨_, _, j, rfl, hj0, hij, hpa, fun h => absurd h hle, (by simp only [sG, reduceCtorEq, t0] <;> rfl), (by simp only [sG, Nat.reduceEqDiff, t1] <;> rfl), (by simp only [sG, Nat.reduceEqDiff, t4] <;> rfl), (by simp only [sG, Nat.reduceEqDiff, ti] <;> rfl), (by simp only [sG, Nat.reduceEqDiff, tj] <;> rfl), hr'.heap rfl, hk'.bump _⟩
      · exact ⟨_, _, j0, rfl, rfl, Nat.le_refl _, by omega, fun k q1 q2 => by omega, (by simp only [t0] <;> rfl), (by simp only [t1] <;> rfl), (by simp only [t4] <;> rfl), (by simp only [ti] <;> rfl), (by simp only [tj] <;> rfl), hr3, hk3⟩
    rintro st ⟨tm, H4, j, rfl, hj2, hj3, hj4, hj5, t0, t1, t4, ti, tj, hr4, hk4⟩
    have lo2 : ∀ k, a + 1 ≤ k → k < i → ¬ (D2 a).v < (D2 k).v := fun k q1 q2 => by
      by_cases q : k < i0
      · rw [haa]; exact hlo k q1 q
      · exact hi4 k (by omega) q2
    have hi2' : ∀ k, j < k → k < e → (D2 a).v < (D2 k).v := fun k q1 q2 => by
      by_cases q : j0 < k
      · rw [haa]; exact hhi k q q2
      · exact hj4 k q1 (by omega)
    by_cases hgt : j < i
    · repeat' (first | refine EvC.seq ?_ | refine EvC.scope ?_ | refine EvC.block ?_ | (refine EvC.skip ?_) | (refine EvC.exit ?_; try simp only [sB, reduceCtorEq]) | (refine EvC.ret ?_; try simp only [z01, z00]) | (refine EvC.reg ?_; simp (config := { maxSteps := 2000000 }) (disch := first | omega | rfl) only [sB, Nat.reduceEqDiff, ti, tj, gtl hgt]) | (refine EvC.condT ?_ ?_; simp (config := { maxSteps := 2000000 }) (disch := first | omega | rfl) only [sB, Nat.reduceEqDiff]; refine z03 ?_))
      have hji : j + 1 = i := by omega
      exact z04 rfl (by simp only [sG, Nat.reduceEqDiff] <;> rfl) ⟨i, D2, rfl, by omega, by omega, hr4, hm, fun k q1 q2 => by
        rw [← ha, ← haa]
        by_cases q : k = a
        · subst q; exact Int.le_refl _
        · have := lo2 k (by omega) q2; omega, fun k q1 q2 => by rw [← ha, ← haa]; exact hi2' k (by omega) q2, hk4⟩
    · have hn1 := hi5 (by omega)
      have hn2 := hj5 (by omega)
      have hne : i < j := by
        rcases Nat.lt_or_ge i j with q | q
        · exact q
        · exfalso
          have : i = j := by omega
          subst this
          exact hn1 hn2
      have hw3 : IntKind.i64.wrap ((i : Int) + 1) = ((i + 1 : Nat) : Int) := by rw [z05 (by omega) (by omega)]; omega
      have hw4 : IntKind.i64.wrap ((j : Int) - 1) = ((j - 1 : Nat) : Int) := by rw [z05 (by omega) (by omega)]; omega
      have k1 : i < n := by omega
      have k2 : j < n := by omega
      have l1 := hr4.load k1
      have l2 := hr4.load k2
      obtain ⟨cells, hg2, hl, he⟩ := hr4.row
      have hbl2 := hk4.wf _ _ hg2
      have le1 : i * 7 + 7 ≤ cells.length := by have := mul7 k1; omega
      have le2 : j * 7 + 7 ≤ cells.length := by have := mul7 k2; omega
      have hsw := fun H1 h2 => RowB.swap (H := H) (b := b) (T := 59) hl he k1 k2 H1 h2
      have ms := Pm.swap (a := a) (b := e) (i := i) (j := j) (D := D2) (by omega) (by omega) (by omega) (by omega)
      have f1 : swF i j D2 i = D2 j := z8l
      have f2 : swF i j D2 j = D2 i := zeh
      have f3 : ∀ k, k ≠ i → k ≠ j → swF i j D2 k = D2 k := fun k q1 q2 => zbe q1 q2
      generalize hE1 : D2 i = E1 at hl he hsw l1 l2
      generalize hE2 : D2 j = E2 at hl he hsw l1 l2
      have le3 : j * 7 + 7 ≤ (Hb.splice cells (i * 7) E2.seven).length := by rw [z0e (vs := E2.seven) le1]; exact le2
      repeat' (first | refine EvC.seq ?_ | refine EvC.scope ?_ | refine EvC.block ?_ | (refine EvC.skip ?_; try simp only [z02]) | (refine EvC.exit ?_) | (refine EvC.ret ?_; try simp only [z01, z00]) | (refine EvC.reg ?_; simp (config := { maxSteps := 2000000 }) (disch := first | omega | rfl) only [sB, Nat.reduceEqDiff, ti, tj, gtn hgt, hw3, hw4]) | (refine EvC.drw (id := 8) [([(0, 0), (1, 0), (4, 0), (5, 0), (6, 0), (7, 0), (8, 0), (9, 0), (10, 0), (11, 0), (12, 0)], some 13), ([(2, 0), (3, 0), (14, 1)], some 15), ([], none)] ?_ ?_; kernel_rfl; simp (config := { maxSteps := 2000000 }) (disch := first | omega | rfl) only [sV, sD, sB, Nat.reduceEqDiff, Nat.reduceAdd, one, reduceCtorEq, ia57, ld59, st59, t0, ti, tj, l1, l2, hg2, le1, le3, isAlloc, isRead, reduceCtorEq]) | (refine EvC.condT ?_ ?_; simp (config := { maxSteps := 2000000 }) (disch := first | omega | rfl) only [sB, Nat.reduceEqDiff]; refine z03 ?_) | (refine EvC.condF ?_ ?_; simp (config := { maxSteps := 2000000 }) (disch := first | omega | rfl) only [sB, Nat.reduceEqDiff]; refine z03 ?_))
      exact ⟨j - 1 + 1 - (i + 1), by omega, _, _, i + 1, j - 1, swF i j D2, rfl, rfl, by omega, by omega, by omega, fun k q1 q2 => by
        rw [← haa]
        by_cases q : k = i
        · subst q; rw [f1]; omega
        · rw [f3 k q (by omega)]; exact lo2 k q1 (by omega), fun k q1 q2 => by
        rw [← haa]
        by_cases q : k = j
        · subst q; rw [f2]; omega
        · rw [f3 k (by omega) q]; exact hi2' k (by omega) q2, by rw [f3 a (by omega) (by omega)]; exact haa, (by simp only [sG, reduceCtorEq, t0] <;> rfl), (by simp only [sG, Nat.reduceEqDiff, t1] <;> rfl), (by simp only [sG, Nat.reduceEqDiff, t4] <;> rfl), (by simp only [sG, Nat.reduceEqDiff] <;> rfl), (by simp only [sG, Nat.reduceEqDiff] <;> rfl), hsw _ (by rw [get_put, if_pos rfl]), hm.trans ms, hk4.two hbl2 _ _ _⟩
  · exact ⟨_, _, a + 1, e - 1, D1, rfl, rfl, Nat.le_refl _, by omega, by omega, fun k q1 q2 => by omega, fun k q1 q2 => by omega, rfl, (by simp only [sG, reduceCtorEq, t0] <;> rfl), (by simp only [sG, Nat.reduceEqDiff, t1] <;> rfl), (by simp only [sG, Nat.reduceEqDiff, t4] <;> rfl), (by simp only [sG, Nat.reduceEqDiff] <;> rfl), (by simp only [sG, Nat.reduceEqDiff] <;> rfl), r1, ms, hk1⟩
set_option maxHeartbeats 16000000 in
theorem zk3 {b n c a e p : Nat} {D : Nat → Bnd} {H : Heap} (hr : RowB H 59 b n D) (hn : n ≤ most) (hap : a ≤ p) (hpe : p < e) (h3 : e ≤ n) (hw : H.wf) :
    EvF Tryd.prog okT 120 [.slice (some ⟨b, 0, none⟩) n c, .int .i64 (a : Nat), .int .i64 (e : Nat), .int .i64 (p : Nat), cvB] H fun v H' =>
      ∃ (m : Nat) (f : Bool) (D' : Nat → Bnd), v = .tuple ⟨[.int .i64 (m : Nat), .bool f]⟩ ∧ a ≤ m ∧ m < e ∧ RowB H' 59 b n D' ∧ Pm a e D D' ∧ (∀ k, a ≤ k → k < m → (D' k).v < (D' m).v) ∧ (∀ k, m < k → k < e → (D' m).v ≤ (D' k).v) ∧ HK (· = b) H H' := by
  have hms : most ≤ 1048576 := by simp [most]
  have hg := z2l
  have hk := HK.refl (S := (· = b)) hw
  refine EvF.enter rfl Tryd.func120 (by decide) rfl ?_
  have hw1 : IntKind.i64.wrap ((a : Int) + 1) = ((a + 1 : Nat) : Int) := by rw [z05 (by omega) (by omega)]; omega
  have hw2 : IntKind.i64.wrap ((e : Int) - 1) = ((e - 1 : Nat) : Int) := by rw [z05 (by omega) (by omega)]; omega
  have k1 : a < n := by omega
  have k2 : p < n := by omega
  have l1 := hr.load k1
  have l2 := hr.load k2
  obtain ⟨cells, hg2, hl, he⟩ := hr.row
  have hbl2 := hk.wf _ _ hg2
  have le1 : a * 7 + 7 ≤ cells.length := by have := mul7 k1; omega
  have le2 : p * 7 + 7 ≤ cells.length := by have := mul7 k2; omega
  have hsw := fun H1 h2 => RowB.swap (H := H) (b := b) (T := 59) hl he k1 k2 H1 h2
  have ms := Pm.swap (a := a) (b := e) (i := a) (j := p) (D := D) (by omega) (by omega) (by omega) (by omega)
  have ha : swF a p D a = D p := z8l
  generalize hE1 : D a = E1 at hl he hsw l1 l2
  generalize hE2 : D p = E2 at hl he hsw l1 l2
  have le3 : p * 7 + 7 ≤ (Hb.splice cells (a * 7) E2.seven).length := by rw [z0e (vs := E2.seven) le1]; exact le2
  (repeat refine EvC.seq ?_); refine EvC.reg ?_; simp (config := { maxSteps := 2000000 }) (disch := first | omega | rfl) only [sA, initTm, Nat.reduceAdd]
  refine EvC.cut (fun st => ∃ tm H1, st = ⟨tm, [], H1⟩ ∧ tm.get 0 = some (.slice (some ⟨b, 0, none⟩) n c) ∧ tm.get 1 = some (.int .i64 (a : Nat)) ∧ tm.get 4 = some cvB ∧ tm.get 2 = some (.int .i64 (e : Nat)) ∧ RowB H1 59 b n (swF a p D) ∧ HK (· = b) H H1) ?_ ?_
  · repeat' (first | refine EvC.seq ?_ | refine EvC.scope ?_ | refine EvC.block ?_ | (refine EvC.skip ?_) | (refine EvC.exit ?_) | (refine EvC.ret ?_; try simp only [z01, z00]) | (refine EvC.drw (id := 1) [([(0, 0), (1, 0), (4, 0), (5, 0), (6, 0), (7, 0), (8, 0), (9, 0), (10, 0), (11, 0), (12, 0)], some 13), ([(2, 0), (3, 0), (14, 1)], some 15), ([], none)] ?_ ?_; kernel_rfl; simp (config := { maxSteps := 2000000 }) (disch := first | omega | rfl) only [sV, sD, sB, Nat.reduceEqDiff, Nat.reduceAdd, one, reduceCtorEq, ia57, ld59, st59, l1, l2, hg2, le1, le3, isAlloc, isRead, reduceCtorEq]))
    exact ⟨_, _, rfl, (by simp only [sG, reduceCtorEq] <;> rfl), (by simp only [sG, Nat.reduceEqDiff, reduceCtorEq] <;> rfl), (by simp only [sG, Nat.reduceEqDiff, reduceCtorEq] <;> rfl), (by simp only [sG, Nat.reduceEqDiff, reduceCtorEq] <;> rfl), hsw _ (by rw [get_put, if_pos rfl]), hk.two hbl2 _ _ _⟩
  rintro st ⟨tm, H1, rfl, t0, t1, t4, t2, r1, hk1⟩
  (repeat refine EvC.seq ?_); refine EvC.reg ?_; simp (config := { maxSteps := 2000000 }) (disch := first | omega | rfl) only [sB, Nat.reduceEqDiff, t1, t2, hw1, hw2]
  have ms0 := ms
  generalize hDD : swF a p D = D2 at *
  clear hsw ms l1 l2 hl he hg2 le1 le2 le3 k1 k2 hDD hE1 hE2 ha
  refine EvC.cut (fun st => ∃ tm H' i, st = ⟨tm, [], H'⟩ ∧ (a + 1) ≤ i ∧ i ≤ (e - 1) + 1 ∧ (∀ k, (a + 1) ≤ k → k < i → (D2 k).v < (D2 a).v) ∧ (i ≤ (e - 1) → ¬ ((D2 i).v < (D2 a).v)) ∧ tm.get 0 = some (.slice (some ⟨b, 0, none⟩) n c) ∧ tm.get 1 = some (.int .i64 (a : Nat)) ∧ tm.get 4 = some cvB ∧ tm.get 12 = some (.int .i64 (i : Nat)) ∧ tm.get 13 = some (.int .i64 ((e - 1) : Nat)) ∧ RowB H' 59 b n D2 ∧ HK (· = b) H H') ?_ ?_
  · refine EvC.block (EvC.loop (fun k st => ∃ tm H' i, st = ⟨tm, [], H'⟩ ∧ k = (e - 1) + 1 - i ∧ (a + 1) ≤ i ∧ i ≤ (e - 1) + 1 ∧ (∀ k, (a + 1) ≤ k → k < i → (D2 k).v < (D2 a).v) ∧ tm.get 0 = some (.slice (some ⟨b, 0, none⟩) n c) ∧ tm.get 1 = some (.int .i64 (a : Nat)) ∧ tm.get 4 = some cvB ∧ tm.get 12 = some (.int .i64 (i : Nat)) ∧ tm.get 13 = some (.int .i64 ((e - 1) : Nat)) ∧ RowB H' 59 b n D2 ∧ HK (· = b) H H') ?_ ((e - 1) + 1 - (a + 1)) _ ?_)
    · rintro k st ⟨tm, H', i, rfl, rfl, hi0, hij, hpa, t0, t1, t4, ti, tj, hr', hk'⟩
      by_cases hle : i ≤ (e - 1)
      · have hd : decide (((i : Nat) : Int) ≤ (((e - 1) : Nat) : Int)) = true := decide_eq_true (by omega)
        have hwv : IntKind.i64.wrap ((i : Int) + 1) = ((i + 1 : Nat) : Int) := by rw [z05 (by omega) (by omega)]; omega
        have k1 : i < n := by omega
        have k2 : a < n := by omega
        have l1 := hr'.load k1
        have l2 := hr'.load k2
        have hb := hk'.bump 16
        repeat' (first | refine EvC.seq ?_ | refine EvC.scope ?_ | refine EvC.block ?_ | (refine EvC.skip ?_) | (refine EvC.exit ?_) | (refine EvC.ret ?_; try simp only [z01, z00]) | (refine EvC.drw (id := 3) [([(0, 0), (1, 0), (2, 0), (3, 0), (4, 0), (5, 0), (6, 0), (7, 0), (8, 0), (9, 0), (10, 0), (11, 0), (12, 0)], some 13), ([(14, 1), (15, 1)], none)] ?_ ?_; kernel_rfl; simp (config := { maxSteps := 2000000 }) (disch := first | omega | rfl) only [sD, sB, Nat.reduceEqDiff, Nat.reduceAdd, reduceCtorEq, ia57, ld59, t0, t1, t4, ti, tj, hd, l1, l2, z0o, z0f hg, isAlloc, isRead, reduceCtorEq]))
        obtain ⟨cells0, hg0, -, -⟩ := hr'.row
        have hbl := hk'.wf _ _ hg0
        refine (z1t hb.wf).mono ?_
        rintro v H2 ⟨rfl, hx2⟩
        have hk2 := hb.hxs hx2
        have r2 := hr'.heap (H' := H2) (by rw [hx2.keep b (Nat.lt_add_right _ hbl)]; rfl)
        by_cases hc : (D2 i).v < (D2 a).v
        · repeat' (first | refine EvC.seq ?_ | refine EvC.scope ?_ | refine EvC.block ?_ | (refine EvC.skip ?_; try simp only [z02]) | (refine EvC.exit ?_) | (refine EvC.ret ?_; try simp only [z01, z00]) | (refine EvC.reg ?_; simp (config := { maxSteps := 2000000 }) (disch := first | omega | rfl) only [sB, Nat.reduceEqDiff, ti, hwv]) | (refine z0h ?_; simp (config := { maxSteps := 2000000 }) (disch := first | omega | rfl) only [sD, sB, Nat.reduceEqDiff, cz_t hc, isAlloc, isRead]) | (refine EvC.condT ?_ ?_; simp (config := { maxSteps := 2000000 }) (disch := first | omega | rfl) only [sB, Nat.reduceEqDiff]; refine z03 ?_))
          exact ⟨(e - 1) + 1 - (i + 1), by omega, _, _, i + 1, rfl, rfl, by omega, by omega, fun k q1 q2 => by
            by_cases e : k = i
            · subst e; omega
            · exact hpa k q1 (by omega), (by simp only [sG, reduceCtorEq, t0] <;> rfl), (by simp only [sG, Nat.reduceEqDiff, t1] <;> rfl), (by simp only [sG, Nat.reduceEqDiff, t4] <;> rfl), (by simp only [sG, Nat.reduceEqDiff] <;> rfl), (by simp only [sG, Nat.reduceEqDiff, tj] <;> rfl), r2, hk2⟩
        · repeat' (first | refine EvC.seq ?_ | refine EvC.scope ?_ | refine EvC.block ?_ | (refine EvC.skip ?_) | (refine EvC.exit ?_; try simp only [sB, reduceCtorEq]) | (refine EvC.ret ?_; try simp only [z01, z00]) | (refine z0h ?_; simp (config := { maxSteps := 2000000 }) (disch := first | omega | rfl) only [sD, sB, Nat.reduceEqDiff, cz_f hc, isAlloc, isRead]) | (refine EvC.condT ?_ ?_; simp (config := { maxSteps := 2000000 }) (disch := first | omega | rfl) only [sB, Nat.reduceEqDiff]; refine z03 ?_) | (refine EvC.condF ?_ ?_; simp (config := { maxSteps := 2000000 }) (disch := first | omega | rfl) only [sB, Nat.reduceEqDiff]; refine z03 ?_))
          exact ⟨_, _, i, rfl, hi0, hij, hpa, fun _ => by omega, (by simp only [sG, reduceCtorEq, t0] <;> rfl), (by simp only [sG, Nat.reduceEqDiff, t1] <;> rfl), (by simp only [sG, Nat.reduceEqDiff, t4] <;> rfl), (by simp only [sG, Nat.reduceEqDiff, ti] <;> rfl), (by simp only [sG, Nat.reduceEqDiff, tj] <;> rfl), r2, hk2⟩
      · have hd : decide (((i : Nat) : Int) ≤ (((e - 1) : Nat) : Int)) = false := decide_eq_false (by omega)
        repeat' (first | refine EvC.seq ?_ | refine EvC.scope ?_ | refine EvC.block ?_ | (refine EvC.skip ?_) | (refine EvC.exit ?_; try simp only [sB, reduceCtorEq]) | (refine EvC.ret ?_; try simp only [z01, z00]) | (refine EvC.drw (id := 3) [([(0, 0), (1, 0), (2, 0), (3, 0), (4, 0), (5, 0), (6, 0), (7, 0), (8, 0), (9, 0), (10, 0), (11, 0), (12, 0)], some 13), ([(14, 1), (15, 1)], none)] ?_ ?_; kernel_rfl; simp (config := { maxSteps := 2000000 }) (disch := first | omega | rfl) only [sD, sB, Nat.reduceEqDiff, Nat.reduceAdd, ti, tj, hd, Bool.false_eq_true, isAlloc, isRead]) | (refine EvC.condT ?_ ?_; simp (config := { maxSteps := 2000000 }) (disch := first | omega | rfl) only [sB, Nat.reduceEqDiff]; refine z03 ?_) | (refine EvC.condF ?_ ?_; simp (config := { maxSteps := 2000000 }) (disch := first | omega | rfl) only [sB, Nat.reduceEqDiff]; refine z03 ?_))
        exact ⟨_, _, i, rfl, hi0, hij, hpa, fun h => absurd h hle, (by simp only [sG, reduceCtorEq, t0] <;> rfl), (by simp only [sG, Nat.reduceEqDiff, t1] <;> rfl), (by simp only [sG, Nat.reduceEqDiff, t4] <;> rfl), (by simp only [sG, Nat.reduceEqDiff, ti] <;> rfl), (by simp only [sG, Nat.reduceEqDiff, tj] <;> rfl), hr'.heap rfl, hk'.bump _⟩
    · exact ⟨_, _, (a + 1), rfl, rfl, Nat.le_refl _, by omega, fun k q1 q2 => by omega, (by simp only [sG, reduceCtorEq, t0] <;> rfl), (by simp only [sG, Nat.reduceEqDiff, t1] <;> rfl), (by simp only [sG, Nat.reduceEqDiff, t4] <;> rfl), (by simp only [sG, Nat.reduceEqDiff] <;> rfl), (by simp only [sG, Nat.reduceEqDiff] <;> rfl), r1, hk1⟩
  clear t0 t1 t4 t2
  rintro st ⟨tm, H3, i, rfl, hi2, hi3, hi4, hi5, t0, t1, t4, ti, tj, hr3, hk3⟩
  refine EvC.cut (fun st => ∃ tm H' j, st = ⟨tm, [], H'⟩ ∧ j ≤ (e - 1) ∧ i ≤ j + 1 ∧ (∀ k, j < k → k ≤ (e - 1) → ¬ (D2 k).v < (D2 a).v) ∧ (i ≤ j → ¬ (¬ (D2 j).v < (D2 a).v)) ∧ tm.get 0 = some (.slice (some ⟨b, 0, none⟩) n c) ∧ tm.get 1 = some (.int .i64 (a : Nat)) ∧ tm.get 4 = some cvB ∧ tm.get 12 = some (.int .i64 (i : Nat)) ∧ tm.get 13 = some (.int .i64 (j : Nat)) ∧ RowB H' 59 b n D2 ∧ HK (· = b) H H') ?_ ?_
  · refine EvC.block (EvC.loop (fun k st => ∃ tm H' j, st = ⟨tm, [], H'⟩ ∧ k = j + 1 - i ∧ j ≤ (e - 1) ∧ i ≤ j + 1 ∧ (∀ k, j < k → k ≤ (e - 1) → ¬ (D2 k).v < (D2 a).v) ∧ tm.get 0 = some (.slice (some ⟨b, 0, none⟩) n c) ∧ tm.get 1 = some (.int .i64 (a : Nat)) ∧ tm.get 4 = some cvB ∧ tm.get 12 = some (.int .i64 (i : Nat)) ∧ tm.get 13 = some (.int .i64 (j : Nat)) ∧ RowB H' 59 b n D2 ∧ HK (· = b) H H') ?_ ((e - 1) + 1 - i) _ ?_)
    · rintro k st ⟨tm, H', j, rfl, rfl, hj0, hij, hpa, t0, t1, t4, ti, tj, hr', hk'⟩
      by_cases hle : i ≤ j
      · have hd : decide (((i : Nat) : Int) ≤ ((j : Nat) : Int)) = true := decide_eq_true (by omega)
        have hwv : IntKind.i64.wrap ((j : Int) - 1) = ((j - 1 : Nat) : Int) := by rw [z05 (by omega) (by omega)]; omega
        have k1 : j < n := by omega
        have k2 : a < n := by omega
        have l1 := hr'.load k1
        have l2 := hr'.load k2
        have hb := hk'.bump 17
        repeat' (first | refine EvC.seq ?_ | refine EvC.scope ?_ | refine EvC.block ?_ | (refine EvC.skip ?_) | (refine EvC.exit ?_) | (refine EvC.ret ?_; try simp only [z01, z00]) | (refine EvC.drw (id := 5) [([(0, 0), (1, 0), (2, 0), (3, 0), (4, 0), (5, 0), (6, 0), (7, 0), (8, 0), (9, 0), (10, 0), (11, 0), (12, 0)], some 13), ([(14, 1), (15, 1), (16, 1)], none)] ?_ ?_; kernel_rfl; simp (config := { maxSteps := 2000000 }) (disch := first | omega | rfl) only [sD, sB, Nat.reduceEqDiff, Nat.reduceAdd, reduceCtorEq, ia57, ld59, t0, t1, t4, ti, tj, hd, l1, l2, z0o, z0f hg, isAlloc, isRead, reduceCtorEq]))
        obtain ⟨cells0, hg0, -, -⟩ := hr'.row
        have hbl := hk'.wf _ _ hg0
        refine (z1t hb.wf).mono ?_
        rintro v H2 ⟨rfl, hx2⟩
        have hk2 := hb.hxs hx2
        have r2 := hr'.heap (H' := H2) (by rw [hx2.keep b (Nat.lt_add_right _ hbl)]; rfl)
        by_cases hc : (D2 j).v < (D2 a).v
        · repeat' (first | refine EvC.seq ?_ | refine EvC.scope ?_ | refine EvC.block ?_ | (refine EvC.skip ?_) | (refine EvC.exit ?_; try simp only [sB, reduceCtorEq]) | (refine EvC.ret ?_; try simp only [z01, z00]) | (refine z0h ?_; simp (config := { maxSteps := 2000000 }) (disch := first | omega | rfl) only [sD, sB, Nat.reduceEqDiff, cz_t hc, Bool.not_true, isAlloc, isRead]) | (refine EvC.condT ?_ ?_; simp (config := { maxSteps := 2000000 }) (disch := first | omega | rfl) only [sB, Nat.reduceEqDiff]; refine z03 ?_) | (refine EvC.condF ?_ ?_; simp (config := { maxSteps := 2000000 }) (disch := first | omega | rfl) only [sB, Nat.reduceEqDiff]; refine z03 ?_))
          exact ⟨_, _, j, rfl, hj0, hij, hpa, fun _ => by omega, (by simp only [sG, reduceCtorEq, t0] <;> rfl), (by simp only [sG, Nat.reduceEqDiff, t1] <;> rfl), (by simp only [sG, Nat.reduceEqDiff, t4] <;> rfl), (by simp only [sG, Nat.reduceEqDiff, ti] <;> rfl), (by simp only [sG, Nat.reduceEqDiff, tj] <;> rfl), r2, hk2⟩
        · repeat' (first | refine EvC.seq ?_ | refine EvC.scope ?_ | refine EvC.block ?_ | (refine EvC.skip ?_; try simp only [z02]) | (refine EvC.exit ?_) | (refine EvC.ret ?_; try simp only [z01, z00]) | (refine EvC.reg ?_; simp (config := { maxSteps := 2000000 }) (disch := first | omega | rfl) only [sB, Nat.reduceEqDiff, tj, hwv]) | (refine z0h ?_; simp (config := { maxSteps := 2000000 }) (disch := first | omega | rfl) only [sD, sB, Nat.reduceEqDiff, cz_f hc, Bool.not_false, isAlloc, isRead]) | (refine EvC.condT ?_ ?_; simp (config := { maxSteps := 2000000 }) (disch := first | omega | rfl) only [sB, Nat.reduceEqDiff]; refine z03 ?_))
          exact ⟨j - 1 + 1 - i, by omega, _, _, j - 1, rfl, rfl, by omega, by omega, fun k q1 q2 => by
            by_cases e : k = j
            · subst e; omega
            · exact hpa k (by omega) q2, (by simp only [sG, reduceCtorEq, t0] <;> rfl), (by simp only [sG, Nat.reduceEqDiff, t1] <;> rfl), (by simp only [sG, Nat.reduceEqDiff, t4] <;> rfl), (by simp only [sG, Nat.reduceEqDiff, ti] <;> rfl), (by simp only [sG, Nat.reduceEqDiff] <;> rfl), r2, hk2⟩
      · have hd : decide (((i : Nat) : Int) ≤ ((j : Nat) : Int)) = false := decide_eq_false (by omega)
        repeat' (first | refine EvC.seq ?_ | refine EvC.scope ?_ | refine EvC.block ?_ | (refine EvC.skip ?_) | (refine EvC.exit ?_; try simp only [sB, reduceCtorEq]) | (refine EvC.ret ?_; try simp only [z01, z00]) | (refine EvC.drw (id := 5) [([(0, 0), (1, 0), (2, 0), (3, 0), (4, 0), (5, 0), (6, 0), (7, 0), (8, 0), (9, 0), (10, 0), (11, 0), (12, 0)], some 13), ([(14, 1), (15, 1), (16, 1)], none)] ?_ ?_; kernel_rfl; simp (config := { maxSteps := 2000000 }) (disch := first | omega | rfl) only [sD, sB, Nat.reduceEqDiff, Nat.reduceAdd, ti, tj, hd, Bool.false_eq_true, isAlloc, isRead]) | (refine EvC.condT ?_ ?_; simp (config := { maxSteps := 2000000 }) (disch := first | omega | rfl) only [sB, Nat.reduceEqDiff]; refine z03 ?_) | (refine EvC.condF ?_ ?_; simp (config := { maxSteps := 2000000 }) (disch := first | omega | rfl) only [sB, Nat.reduceEqDiff]; refine z03 ?_))
        exact ⟨_, _, j, rfl, hj0, hij, hpa, fun h => absurd h hle, (by simp only [sG, reduceCtorEq, t0] <;> rfl), (by simp only [sG, Nat.reduceEqDiff, t1] <;> rfl), (by simp only [sG, Nat.reduceEqDiff, t4] <;> rfl), (by simp only [sG, Nat.reduceEqDiff, ti] <;> rfl), (by simp only [sG, Nat.reduceEqDiff, tj] <;> rfl), hr'.heap rfl, hk'.bump _⟩
    · exact ⟨_, _, (e - 1), rfl, rfl, Nat.le_refl _, by omega, fun k q1 q2 => by omega, (by simp only [t0] <;> rfl), (by simp only [t1] <;> rfl), (by simp only [t4] <;> rfl), (by simp only [ti] <;> rfl), (by simp only [tj] <;> rfl), hr3, hk3⟩
  clear t0 t1 t4 ti tj
  rintro st ⟨tm, H4, j, rfl, hj2, hj3, hj4, hj5, t0, t1, t4, ti, tj, hr4, hk4⟩
  have fin : ∀ (D3 : Nat → Bnd) (i j : Nat), a + 1 ≤ i → j + 1 = i → j < e → (∀ k, a + 1 ≤ k → k < i → (D3 k).v < (D3 a).v) → (∀ k, j < k → k < e → ¬ (D3 k).v < (D3 a).v) →
      (∀ k, a ≤ k → k < j → (swF j a D3 k).v < (swF j a D3 j).v) ∧ (∀ k, j < k → k < e → (swF j a D3 j).v ≤ (swF j a D3 k).v) := fun D3 i j q1 q2 q3 q4 q5 => by
    have f1 : swF j a D3 j = D3 a := z8l
    have f2 : swF j a D3 a = D3 j := zeh
    refine ⟨fun k u1 u2 => ?_, fun k u1 u2 => ?_⟩
    · rw [f1]
      by_cases q : k = a
      · subst q; rw [f2]; exact q4 j (by omega) (by omega)
      · rw [zbe (by omega) q]; exact q4 k (by omega) (by omega)
    · rw [f1, zbe (by omega) (by omega)]
      have := q5 k u1 u2; omega
  by_cases hgt : j < i
  · have hji : j + 1 = i := by omega
    obtain ⟨fa, fb⟩ := fin D2 i j (by omega) hji (by omega) (fun k q1 q2 => hi4 k q1 q2) (fun k q1 q2 => hj4 k q1 (by omega))
    clear fin
    have k1 : j < n := by omega
    have k2 : a < n := by omega
    have l1 := hr4.load k1
    have l2 := hr4.load k2
    obtain ⟨cells, hg2, hl, he⟩ := hr4.row
    have hbl2 := hk4.wf _ _ hg2
    have le1 : j * 7 + 7 ≤ cells.length := by have := mul7 k1; omega
    have le2 : a * 7 + 7 ≤ cells.length := by have := mul7 k2; omega
    have hsw := fun H1 h2 => RowB.swap (H := H) (b := b) (T := 59) hl he k1 k2 H1 h2
    have ms := Pm.swap (a := a) (b := e) (i := j) (j := a) (D := D2) (by omega) (by omega) (by omega) (by omega)
    generalize hDD : swF j a D2 = D3 at *
    generalize hE1 : D2 j = E1 at hl he hsw l1 l2
    generalize hE2 : D2 a = E2 at hl he hsw l1 l2
    have le3 : a * 7 + 7 ≤ (Hb.splice cells (j * 7) E2.seven).length := by rw [z0e (vs := E2.seven) le1]; exact le2
    repeat' (first | refine EvC.seq ?_ | refine EvC.scope ?_ | refine EvC.block ?_ | (refine EvC.skip ?_) | (refine EvC.exit ?_) | (refine EvC.ret ?_; try simp only [z01, z00]) | (refine EvC.reg ?_; simp (config := { maxSteps := 2000000 }) (disch := first | omega | rfl) only [sB, Nat.reduceEqDiff, ti, tj, gtl hgt]) | (refine EvC.drw (id := 8) [([(0, 0), (1, 0), (4, 0), (5, 0), (6, 0), (7, 0), (8, 0), (9, 0), (10, 0), (11, 0), (12, 0)], some 13), ([(2, 0), (3, 0), (14, 1)], some 15), ([], none)] ?_ ?_; kernel_rfl; simp (config := { maxSteps := 2000000 }) (disch := first | omega | rfl) only [sV, sD, sB, Nat.reduceEqDiff, Nat.reduceAdd, one, reduceCtorEq, ia57, ld59, st59, t0, t1, tj, l1, l2, hg2, le1, le3, isAlloc, isRead, reduceCtorEq]) | (refine EvC.condT ?_ ?_; simp (config := { maxSteps := 2000000 }) (disch := first | omega | rfl) only [sB, Nat.reduceEqDiff]; refine z03 ?_))
    exact z1k rfl (by simp only [sG, Nat.reduceEqDiff] <;> rfl) (by simp only [sB, Nat.reduceEqDiff] <;> rfl) ⟨j, _, D3, rfl, by omega, by omega, hsw _ (by rw [get_put, if_pos rfl]), ms0.trans ms, fa, fb, hk4.two hbl2 _ _ _⟩
  have hn1 := hi5 (by omega)
  have hn2 := hj5 (by omega)
  have hne : i < j := by
    rcases Nat.lt_or_ge i j with q | q
    · exact q
    · exfalso
      have : i = j := by omega
      subst this
      exact hn2 hn1
  have hw3 : IntKind.i64.wrap ((i : Int) + 1) = ((i + 1 : Nat) : Int) := by rw [z05 (by omega) (by omega)]; omega
  have hw4 : IntKind.i64.wrap ((j : Int) - 1) = ((j - 1 : Nat) : Int) := by rw [z05 (by omega) (by omega)]; omega
  have k1 : i < n := by omega
  have k2 : j < n := by omega
  have l1 := hr4.load k1
  have l2 := hr4.load k2
  obtain ⟨cells, hg2, hl, he⟩ := hr4.row
  have hbl2 := hk4.wf _ _ hg2
  have le1 : i * 7 + 7 ≤ cells.length := by have := mul7 k1; omega
  have le2 : j * 7 + 7 ≤ cells.length := by have := mul7 k2; omega
  have hsw := fun H1 h2 => RowB.swap (H := H) (b := b) (T := 59) hl he k1 k2 H1 h2
  have ms := Pm.swap (a := a) (b := e) (i := i) (j := j) (D := D2) (by omega) (by omega) (by omega) (by omega)
  have f1 : swF i j D2 i = D2 j := z8l
  have f2 : swF i j D2 j = D2 i := zeh
  have f3 : ∀ k, k ≠ i → k ≠ j → swF i j D2 k = D2 k := fun k q1 q2 => zbe q1 q2
  generalize hE1 : D2 i = E1 at hl he hsw l1 l2
  generalize hE2 : D2 j = E2 at hl he hsw l1 l2
  have le3 : j * 7 + 7 ≤ (Hb.splice cells (i * 7) E2.seven).length := by rw [z0e (vs := E2.seven) le1]; exact le2
  (repeat refine EvC.seq ?_); refine EvC.reg ?_; simp (config := { maxSteps := 2000000 }) (disch := first | omega | rfl) only [sB, Nat.reduceEqDiff, ti, tj, gtn hgt]
  (repeat refine EvC.seq ?_); refine EvC.condF (by simp (config := { maxSteps := 2000000 }) (disch := first | omega | rfl) only [sB, Nat.reduceEqDiff]) ?_; (try refine EvC.skip ?_); (try simp only [z02, z09])
  refine EvC.cut (fun st => ∃ tm H1, st = ⟨tm, [], H1⟩ ∧ tm.get 0 = some (.slice (some ⟨b, 0, none⟩) n c) ∧ tm.get 1 = some (.int .i64 (a : Nat)) ∧ tm.get 4 = some cvB ∧ tm.get 12 = some (.int .i64 (i : Nat)) ∧ tm.get 13 = some (.int .i64 (j : Nat)) ∧ RowB H1 59 b n (swF i j D2) ∧ HK (· = b) H H1) ?_ ?_
  · repeat' (first | refine EvC.seq ?_ | refine EvC.scope ?_ | refine EvC.block ?_ | (refine EvC.skip ?_) | (refine EvC.exit ?_) | (refine EvC.ret ?_; try simp only [z01, z00]) | (refine EvC.drw (id := 10) [([(0, 0), (1, 0), (4, 0), (5, 0), (6, 0), (7, 0), (8, 0), (9, 0), (10, 0), (11, 0), (12, 0)], some 13), ([(2, 0), (3, 0), (14, 1)], some 15), ([], none)] ?_ ?_; kernel_rfl; simp (config := { maxSteps := 2000000 }) (disch := first | omega | rfl) only [sV, sD, sB, Nat.reduceEqDiff, Nat.reduceAdd, one, reduceCtorEq, ia57, ld59, st59, t0, ti, tj, l1, l2, hg2, le1, le3, isAlloc, isRead, reduceCtorEq]))
    exact ⟨_, _, rfl, (by simp only [sG, reduceCtorEq, t0] <;> rfl), (by simp only [sG, Nat.reduceEqDiff, t1] <;> rfl), (by simp only [sG, Nat.reduceEqDiff, t4] <;> rfl), (by simp only [sG, Nat.reduceEqDiff, ti] <;> rfl), (by simp only [sG, Nat.reduceEqDiff, tj] <;> rfl), hsw _ (by rw [get_put, if_pos rfl]), hk4.two hbl2 _ _ _⟩
  clear t0 t1 t4 ti tj
  rintro st ⟨tm, H5, rfl, t0, t1, t4, ti, tj, r5, hk5⟩
  (repeat refine EvC.seq ?_); refine EvC.reg ?_; simp (config := { maxSteps := 2000000 }) (disch := first | omega | rfl) only [sB, Nat.reduceEqDiff, ti, hw3]
  (repeat refine EvC.seq ?_); refine EvC.reg ?_; simp (config := { maxSteps := 2000000 }) (disch := first | omega | rfl) only [sB, Nat.reduceEqDiff, tj, hw4]
  have lo3 : ∀ k, a + 1 ≤ k → k < i + 1 → (swF i j D2 k).v < (swF i j D2 a).v := fun k q1 q2 => by
    rw [f3 a (by omega) (by omega)]
    by_cases q : k = i
    · subst q; rw [f1]; omega
    · rw [f3 k q (by omega)]; exact hi4 k q1 (by omega)
  have hi3' : ∀ k, j - 1 < k → k < e → ¬ (swF i j D2 k).v < (swF i j D2 a).v := fun k q1 q2 => by
    rw [f3 a (by omega) (by omega)]
    by_cases q : k = j
    · subst q; rw [f2]; omega
    · rw [f3 k (by omega) q]; exact hj4 k (by omega) (by omega)
  have mm := ms0.trans ms
  clear hsw l1 l2 hl he hg2 le1 le2 le3 k1 k2 f1 f2 f3 hE1 hE2 ms hr4 hk4 hi4 hi5 hj4 hj5 hn1 hn2 hw3 hw4
  generalize swF i j D2 = D1 at *
  have hi6 : a + 1 ≤ i + 1 := by omega
  have hj6 : i + 1 ≤ j - 1 + 1 := by omega
  have hj7 : j - 1 < e := by omega
  generalize i + 1 = i1 at *
  generalize j - 1 = j1 at *
  refine EvC.cut (fun st => ∃ tm H' i j D', st = ⟨tm, [], H'⟩ ∧ a + 1 ≤ i ∧ j + 1 = i ∧ j < e ∧ (∀ k, a + 1 ≤ k → k < i → (D' k).v < (D' a).v) ∧ (∀ k, j < k → k < e → ¬ (D' k).v < (D' a).v) ∧ tm.get 0 = some (.slice (some ⟨b, 0, none⟩) n c) ∧ tm.get 1 = some (.int .i64 (a : Nat)) ∧ tm.get 4 = some cvB ∧ tm.get 12 = some (.int .i64 (i : Nat)) ∧ tm.get 13 = some (.int .i64 (j : Nat)) ∧ RowB H' 59 b n D' ∧ Pm a e D D' ∧ HK (· = b) H H') ?_ ?_
  · refine EvC.block (EvC.loop (fun k st => ∃ tm H' i j D', st = ⟨tm, [], H'⟩ ∧ k = j + 1 - i ∧ a + 1 ≤ i ∧ i ≤ j + 1 ∧ j < e ∧ (∀ k, a + 1 ≤ k → k < i → (D' k).v < (D' a).v) ∧ (∀ k, j < k → k < e → ¬ (D' k).v < (D' a).v) ∧ tm.get 0 = some (.slice (some ⟨b, 0, none⟩) n c) ∧ tm.get 1 = some (.int .i64 (a : Nat)) ∧ tm.get 4 = some cvB ∧ tm.get 12 = some (.int .i64 (i : Nat)) ∧ tm.get 13 = some (.int .i64 (j : Nat)) ∧ RowB H' 59 b n D' ∧ Pm a e D D' ∧ HK (· = b) H H') ?_ (j1 + 1 - i1) _ ?_)
    · rintro k st ⟨tm, H0, i0, j0, D2, rfl, rfl, hi1, hij0, hje, hlo, hhi, t0, t1, t4, ti, tj, hr0, hm, hk0⟩
      (repeat refine EvC.seq ?_)
      refine EvC.block ?_
      refine EvC.cut (fun st => ∃ tm H' i, st = ⟨tm, [], H'⟩ ∧ i0 ≤ i ∧ i ≤ j0 + 1 ∧ (∀ k, i0 ≤ k → k < i → (D2 k).v < (D2 a).v) ∧ (i ≤ j0 → ¬ ((D2 i).v < (D2 a).v)) ∧ tm.get 0 = some (.slice (some ⟨b, 0, none⟩) n c) ∧ tm.get 1 = some (.int .i64 (a : Nat)) ∧ tm.get 4 = some cvB ∧ tm.get 12 = some (.int .i64 (i : Nat)) ∧ tm.get 13 = some (.int .i64 (j0 : Nat)) ∧ RowB H' 59 b n D2 ∧ HK (· = b) H H') ?_ ?_
      · refine EvC.block (EvC.loop (fun k st => ∃ tm H' i, st = ⟨tm, [], H'⟩ ∧ k = j0 + 1 - i ∧ i0 ≤ i ∧ i ≤ j0 + 1 ∧ (∀ k, i0 ≤ k → k < i → (D2 k).v < (D2 a).v) ∧ tm.get 0 = some (.slice (some ⟨b, 0, none⟩) n c) ∧ tm.get 1 = some (.int .i64 (a : Nat)) ∧ tm.get 4 = some cvB ∧ tm.get 12 = some (.int .i64 (i : Nat)) ∧ tm.get 13 = some (.int .i64 (j0 : Nat)) ∧ RowB H' 59 b n D2 ∧ HK (· = b) H H') ?_ (j0 + 1 - i0) _ ?_)
        · rintro k st ⟨tm, H', i, rfl, rfl, hi0, hij, hpa, t0, t1, t4, ti, tj, hr', hk'⟩
          by_cases hle : i ≤ j0
          · have hd : decide (((i : Nat) : Int) ≤ ((j0 : Nat) : Int)) = true := decide_eq_true (by omega)
            have hwv : IntKind.i64.wrap ((i : Int) + 1) = ((i + 1 : Nat) : Int) := by rw [z05 (by omega) (by omega)]; omega
            have k1 : i < n := by omega
            have k2 : a < n := by omega
            have l1 := hr'.load k1
            have l2 := hr'.load k2
            have hb := hk'.bump 16
            repeat' (first | refine EvC.seq ?_ | refine EvC.scope ?_ | refine EvC.block ?_ | (refine EvC.skip ?_) | (refine EvC.exit ?_) | (refine EvC.ret ?_; try simp only [z01, z00]) | (refine EvC.drw (id := 13) [([(0, 0), (1, 0), (2, 0), (3, 0), (4, 0), (5, 0), (6, 0), (7, 0), (8, 0), (9, 0), (10, 0), (11, 0), (12, 0)], some 13), ([(14, 1), (15, 1)], none)] ?_ ?_; kernel_rfl; simp (config := { maxSteps := 2000000 }) (disch := first | omega | rfl) only [sD, sB, Nat.reduceEqDiff, Nat.reduceAdd, reduceCtorEq, ia57, ld59, t0, t1, t4, ti, tj, hd, l1, l2, z0o, z0f hg, isAlloc, isRead, reduceCtorEq]))
            obtain ⟨cells0, hg0, -, -⟩ := hr'.row
            have hbl := hk'.wf _ _ hg0
            refine (z1t hb.wf).mono ?_
            rintro v H2 ⟨rfl, hx2⟩
            have hk2 := hb.hxs hx2
            have r2 := hr'.heap (H' := H2) (by rw [hx2.keep b (Nat.lt_add_right _ hbl)]; rfl)
            by_cases hc : (D2 i).v < (D2 a).v
            · repeat' (first | refine EvC.seq ?_ | refine EvC.scope ?_ | refine EvC.block ?_ | (refine EvC.skip ?_; try simp only [z02]) | (refine EvC.exit ?_) | (refine EvC.ret ?_; try simp only [z01, z00]) | (refine EvC.reg ?_; simp (config := { maxSteps := 2000000 }) (disch := first | omega | rfl) only [sB, Nat.reduceEqDiff, ti, hwv]) | (refine z0h ?_; simp (config := { maxSteps := 2000000 }) (disch := first | omega | rfl) only [sD, sB, Nat.reduceEqDiff, cz_t hc, isAlloc, isRead]) | (refine EvC.condT ?_ ?_; simp (config := { maxSteps := 2000000 }) (disch := first | omega | rfl) only [sB, Nat.reduceEqDiff]; refine z03 ?_))
              exact ⟨j0 + 1 - (i + 1), by omega, _, _, i + 1, rfl, rfl, by omega, by omega, fun k q1 q2 => by
                by_cases e : k = i
                · subst e; omega
                · exact hpa k q1 (by omega), (by simp only [sG, reduceCtorEq, t0] <;> rfl), (by simp only [sG, Nat.reduceEqDiff, t1] <;> rfl), (by simp only [sG, Nat.reduceEqDiff, t4] <;> rfl), (by simp only [sG, Nat.reduceEqDiff] <;> rfl), (by simp only [sG, Nat.reduceEqDiff, tj] <;> rfl), r2, hk2⟩
            · repeat' (first | refine EvC.seq ?_ | refine EvC.scope ?_ | refine EvC.block ?_ | (refine EvC.skip ?_) | (refine EvC.exit ?_; try simp only [sB, reduceCtorEq]) | (refine EvC.ret ?_; try simp only [z01, z00]) | (refine z0h ?_; simp (config := { maxSteps := 2000000 }) (disch := first | omega | rfl) only [sD, sB, Nat.reduceEqDiff, cz_f hc, isAlloc, isRead]) | (refine EvC.condT ?_ ?_; simp (config := { maxSteps := 2000000 }) (disch := first | omega | rfl) only [sB, Nat.reduceEqDiff]; refine z03 ?_) | (refine EvC.condF ?_ ?_; simp (config := { maxSteps := 2000000 }) (disch := first | omega | rfl) only [sB, Nat.reduceEqDiff]; refine z03 ?_))
              exact ⟨_, _, i, rfl, hi0, hij, hpa, fun _ => by omega, (by simp only [sG, reduceCtorEq, t0] <;> rfl), (by simp only [sG, Nat.reduceEqDiff, t1] <;> rfl), (by simp only [sG, Nat.reduceEqDiff, t4] <;> rfl), (by simp only [sG, Nat.reduceEqDiff, ti] <;> rfl), (by simp only [sG, Nat.reduceEqDiff, tj] <;> rfl), r2, hk2⟩
          · have hd : decide (((i : Nat) : Int) ≤ ((j0 : Nat) : Int)) = false := decide_eq_false (by omega)
            repeat' (first | refine EvC.seq ?_ | refine EvC.scope ?_ | refine EvC.block ?_ | (refine EvC.skip ?_) | (refine EvC.exit ?_; try simp only [sB, reduceCtorEq]) | (refine EvC.ret ?_; try simp only [z01, z00]) | (refine EvC.drw (id := 13) [([(0, 0), (1, 0), (2, 0), (3, 0), (4, 0), (5, 0), (6, 0), (7, 0), (8, 0), (9, 0), (10, 0), (11, 0), (12, 0)], some 13), ([(14, 1), (15, 1)], none)] ?_ ?_; kernel_rfl; simp (config := { maxSteps := 2000000 }) (disch := first | omega | rfl) only [sD, sB, Nat.reduceEqDiff, Nat.reduceAdd, ti, tj, hd, Bool.false_eq_true, isAlloc, isRead]) | (refine EvC.condT ?_ ?_; simp (config := { maxSteps := 2000000 }) (disch := first | omega | rfl) only [sB, Nat.reduceEqDiff]; refine z03 ?_) | (refine EvC.condF ?_ ?_; simp (config := { maxSteps := 2000000 }) (disch := first | omega | rfl) only [sB, Nat.reduceEqDiff]; refine z03 ?_))
            exact ⟨_, _, i, rfl, hi0, hij, hpa, fun h => absurd h hle, (by simp only [sG, reduceCtorEq, t0] <;> rfl), (by simp only [sG, Nat.reduceEqDiff, t1] <;> rfl), (by simp only [sG, Nat.reduceEqDiff, t4] <;> rfl), (by simp only [sG, Nat.reduceEqDiff, ti] <;> rfl), (by simp only [sG, Nat.reduceEqDiff, tj] <;> rfl), hr'.heap rfl, hk'.bump _⟩
        · exact ⟨_, _, i0, rfl, rfl, Nat.le_refl _, by omega, fun k q1 q2 => by omega, (by simp only [t0] <;> rfl), (by simp only [t1] <;> rfl), (by simp only [t4] <;> rfl), (by simp only [ti] <;> rfl), (by simp only [tj] <;> rfl), hr0, hk0⟩
      clear t0 t1 t4 ti tj
      rintro st ⟨tm, H3, i, rfl, hi2, hi3, hi4, hi5, t0, t1, t4, ti, tj, hr3, hk3⟩
      refine EvC.cut (fun st => ∃ tm H' j, st = ⟨tm, [], H'⟩ ∧ j ≤ j0 ∧ i ≤ j + 1 ∧ (∀ k, j < k → k ≤ j0 → ¬ (D2 k).v < (D2 a).v) ∧ (i ≤ j → ¬ (¬ (D2 j).v < (D2 a).v)) ∧ tm.get 0 = some (.slice (some ⟨b, 0, none⟩) n c) ∧ tm.get 1 = some (.int .i64 (a : Nat)) ∧ tm.get 4 = some cvB ∧ tm.get 12 = some (.int .i64 (i : Nat)) ∧ tm.get 13 = some (.int .i64 (j : Nat)) ∧ RowB H' 59 b n D2 ∧ HK (· = b) H H') ?_ ?_
      · refine EvC.block (EvC.loop (fun k st => ∃ tm H' j, st = ⟨tm, [], H'⟩ ∧ k = j + 1 - i ∧ j ≤ j0 ∧ i ≤ j + 1 ∧ (∀ k, j < k → k ≤ j0 → ¬ (D2 k).v < (D2 a).v) ∧ tm.get 0 = some (.slice (some ⟨b, 0, none⟩) n c) ∧ tm.get 1 = some (.int .i64 (a : Nat)) ∧ tm.get 4 = some cvB ∧ tm.get 12 = some (.int .i64 (i : Nat)) ∧ tm.get 13 = some (.int .i64 (j : Nat)) ∧ RowB H' 59 b n D2 ∧ HK (· = b) H H') ?_ (j0 + 1 - i) _ ?_)
        · rintro k st ⟨tm, H', j, rfl, rfl, hj0, hij, hpa, t0, t1, t4, ti, tj, hr', hk'⟩
          by_cases hle : i ≤ j
          · have hd : decide (((i : Nat) : Int) ≤ ((j : Nat) : Int)) = true := decide_eq_true (by omega)
            have hwv : IntKind.i64.wrap ((j : Int) - 1) = ((j - 1 : Nat) : Int) := by rw [z05 (by omega) (by omega)]; omega
            have k1 : j < n := by omega
            have k2 : a < n := by omega
            have l1 := hr'.load k1
            have l2 := hr'.load k2
            have hb := hk'.bump 17
            repeat' (first | refine EvC.seq ?_ | refine EvC.scope ?_ | refine EvC.block ?_ | (refine EvC.skip ?_) | (refine EvC.exit ?_) | (refine EvC.ret ?_; try simp only [z01, z00]) | (refine EvC.drw (id := 15) [([(0, 0), (1, 0), (2, 0), (3, 0), (4, 0), (5, 0), (6, 0), (7, 0), (8, 0), (9, 0), (10, 0), (11, 0), (12, 0)], some 13), ([(14, 1), (15, 1), (16, 1)], none)] ?_ ?_; kernel_rfl; simp (config := { maxSteps := 2000000 }) (disch := first | omega | rfl) only [sD, sB, Nat.reduceEqDiff, Nat.reduceAdd, reduceCtorEq, ia57, ld59, t0, t1, t4, ti, tj, hd, l1, l2, z0o, z0f hg, isAlloc, isRead, reduceCtorEq]))
            obtain ⟨cells0, hg0, -, -⟩ := hr'.row
            have hbl := hk'.wf _ _ hg0
            refine (z1t hb.wf).mono ?_
            rintro v H2 ⟨rfl, hx2⟩
            have hk2 := hb.hxs hx2
            have r2 := hr'.heap (H' := H2) (by rw [hx2.keep b (Nat.lt_add_right _ hbl)]; rfl)
            by_cases hc : (D2 j).v < (D2 a).v
            · repeat' (first | refine EvC.seq ?_ | refine EvC.scope ?_ | refine EvC.block ?_ | (refine EvC.skip ?_) | (refine EvC.exit ?_; try simp only [sB, reduceCtorEq]) | (refine EvC.ret ?_; try simp only [z01, z00]) | (refine z0h ?_; simp (config := { maxSteps := 2000000 }) (disch := first | omega | rfl) only [sD, sB, Nat.reduceEqDiff, cz_t hc, Bool.not_true, isAlloc, isRead]) | (refine EvC.condT ?_ ?_; simp (config := { maxSteps := 2000000 }) (disch := first | omega | rfl) only [sB, Nat.reduceEqDiff]; refine z03 ?_) | (refine EvC.condF ?_ ?_; simp (config := { maxSteps := 2000000 }) (disch := first | omega | rfl) only [sB, Nat.reduceEqDiff]; refine z03 ?_))
              exact ⟨_, _, j, rfl, hj0, hij, hpa, fun _ => by omega, (by simp only [sG, reduceCtorEq, t0] <;> rfl), (by simp only [sG, Nat.reduceEqDiff, t1] <;> rfl), (by simp only [sG, Nat.reduceEqDiff, t4] <;> rfl), (by simp only [sG, Nat.reduceEqDiff, ti] <;> rfl), (by simp only [sG, Nat.reduceEqDiff, tj] <;> rfl), r2, hk2⟩
            · repeat' (first | refine EvC.seq ?_ | refine EvC.scope ?_ | refine EvC.block ?_ | (refine EvC.skip ?_; try simp only [z02]) | (refine EvC.exit ?_) | (refine EvC.ret ?_; try simp only [z01, z00]) | (refine EvC.reg ?_; simp (config := { maxSteps := 2000000 }) (disch := first | omega | rfl) only [sB, Nat.reduceEqDiff, tj, hwv]) | (refine z0h ?_; simp (config := { maxSteps := 2000000 }) (disch := first | omega | rfl) only [sD, sB, Nat.reduceEqDiff, cz_f hc, Bool.not_false, isAlloc, isRead]) | (refine EvC.condT ?_ ?_; simp (config := { maxSteps := 2000000 }) (disch := first | omega | rfl) only [sB, Nat.reduceEqDiff]; refine z03 ?_))
              exact ⟨j - 1 + 1 - i, by omega, _, _, j - 1, rfl, rfl, by omega, by omega, fun k q1 q2 => by
                by_cases e : k = j
                · subst e; omega
                · exact hpa k (by omega) q2, (by simp only [sG, reduceCtorEq, t0] <;> rfl), (by simp only [sG, Nat.reduceEqDiff, t1] <;> rfl), (by simp only [sG, Nat.reduceEqDiff, t4] <;> rfl), (by simp only [sG, Nat.reduceEqDiff, ti] <;> rfl), (by simp only [sG, Nat.reduceEqDiff] <;> rfl), r2, hk2⟩
          · have hd : decide (((i : Nat) : Int) ≤ ((j : Nat) : Int)) = false := decide_eq_false (by omega)
            repeat' (first | refine EvC.seq ?_ | refine EvC.scope ?_ | refine EvC.block ?_ | (refine EvC.skip ?_) | (refine EvC.exit ?_; try simp only [sB, reduceCtorEq]) | (refine EvC.ret ?_; try simp only [z01, z00]) | (refine EvC.drw (id := 15) [([(0, 0), (1, 0), (2, 0), (3, 0), (4, 0), (5, 0), (6, 0), (7, 0), (8, 0), (9, 0), (10, 0), (11, 0), (12, 0)], some 13), ([(14, 1), (15, 1), (16, 1)], none)] ?_ ?_; kernel_rfl; simp (config := { maxSteps := 2000000 }) (disch := first | omega | rfl) only [sD, sB, Nat.reduceEqDiff, Nat.reduceAdd, ti, tj, hd, Bool.false_eq_true, isAlloc, isRead]) | (refine EvC.condT ?_ ?_; simp (config := { maxSteps := 2000000 }) (disch := first | omega | rfl) only [sB, Nat.reduceEqDiff]; refine z03 ?_) | (refine EvC.condF ?_ ?_; simp (config := { maxSteps := 2000000 }) (disch := first | omega | rfl) only [sB, Nat.reduceEqDiff]; refine z03 ?_))
            exact ⟨_, _, j, rfl, hj0, hij, hpa, fun h => absurd h hle, (by simp only [sG, reduceCtorEq, t0] <;> rfl), (by simp only [sG, Nat.reduceEqDiff, t1] <;> rfl), (by simp only [sG, Nat.reduceEqDiff, t4] <;> rfl), (by simp only [sG, Nat.reduceEqDiff, ti] <;> rfl), (by simp only [sG, Nat.reduceEqDiff, tj] <;> rfl), hr'.heap rfl, hk'.bump _⟩
        · exact ⟨_, _, j0, rfl, rfl, Nat.le_refl _, by omega, fun k q1 q2 => by omega, (by simp only [t0] <;> rfl), (by simp only [t1] <;> rfl), (by simp only [t4] <;> rfl), (by simp only [ti] <;> rfl), (by simp only [tj] <;> rfl), hr3, hk3⟩
      clear t0 t1 t4 ti tj
      rintro st ⟨tm, H4, j, rfl, hj2, hj3, hj4, hj5, t0, t1, t4, ti, tj, hr4, hk4⟩
      have lo2 : ∀ k, a + 1 ≤ k → k < i → (D2 k).v < (D2 a).v := fun k q1 q2 => by
        by_cases q : k < i0
        · exact hlo k q1 q
        · exact hi4 k (by omega) q2
      have hi2' : ∀ k, j < k → k < e → ¬ (D2 k).v < (D2 a).v := fun k q1 q2 => by
        by_cases q : j0 < k
        · exact hhi k q q2
        · exact hj4 k q1 (by omega)
      by_cases hgt : j < i
      · repeat' (first | refine EvC.seq ?_ | refine EvC.scope ?_ | refine EvC.block ?_ | (refine EvC.skip ?_) | (refine EvC.exit ?_; try simp only [sB, Nat.reduceEqDiff, reduceCtorEq]) | (refine EvC.ret ?_; try simp only [z01, z00]) | (refine EvC.reg ?_; simp (config := { maxSteps := 2000000 }) (disch := first | omega | rfl) only [sB, Nat.reduceEqDiff, ti, tj, gtl hgt]) | (refine EvC.condT ?_ ?_; simp (config := { maxSteps := 2000000 }) (disch := first | omega | rfl) only [sB, Nat.reduceEqDiff]; refine z03 ?_))
        exact ⟨_, _, i, j, D2, rfl, by omega, by omega, by omega, lo2, hi2', (by simp only [sG, reduceCtorEq, t0] <;> rfl), (by simp only [sG, Nat.reduceEqDiff, t1] <;> rfl), (by simp only [sG, Nat.reduceEqDiff, t4] <;> rfl), (by simp only [sG, Nat.reduceEqDiff, ti] <;> rfl), (by simp only [sG, Nat.reduceEqDiff, tj] <;> rfl), hr4, hm, hk4⟩
      · have hn1 := hi5 (by omega)
        have hn2 := hj5 (by omega)
        have hne : i < j := by
          rcases Nat.lt_or_ge i j with q | q
          · exact q
          · exfalso
            have : i = j := by omega
            subst this
            exact hn2 hn1
        have hw3 : IntKind.i64.wrap ((i : Int) + 1) = ((i + 1 : Nat) : Int) := by rw [z05 (by omega) (by omega)]; omega
        have hw4 : IntKind.i64.wrap ((j : Int) - 1) = ((j - 1 : Nat) : Int) := by rw [z05 (by omega) (by omega)]; omega
        have k1 : i < n := by omega
        have k2 : j < n := by omega
        have l1 := hr4.load k1
        have l2 := hr4.load k2
        obtain ⟨cells, hg2, hl, he⟩ := hr4.row
        have hbl2 := hk4.wf _ _ hg2
        have le1 : i * 7 + 7 ≤ cells.length := by have := mul7 k1; omega
        have le2 : j * 7 + 7 ≤ cells.length := by have := mul7 k2; omega
        have hsw := fun H1 h2 => RowB.swap (H := H) (b := b) (T := 59) hl he k1 k2 H1 h2
        have ms := Pm.swap (a := a) (b := e) (i := i) (j := j) (D := D2) (by omega) (by omega) (by omega) (by omega)
        have f1 : swF i j D2 i = D2 j := z8l
        have f2 : swF i j D2 j = D2 i := zeh
        have f3 : ∀ k, k ≠ i → k ≠ j → swF i j D2 k = D2 k := fun k q1 q2 => zbe q1 q2
        generalize hE1 : D2 i = E1 at hl he hsw l1 l2
        generalize hE2 : D2 j = E2 at hl he hsw l1 l2
        have le3 : j * 7 + 7 ≤ (Hb.splice cells (i * 7) E2.seven).length := by rw [z0e (vs := E2.seven) le1]; exact le2
        repeat' (first | refine EvC.seq ?_ | refine EvC.scope ?_ | refine EvC.block ?_ | (refine EvC.skip ?_; try simp only [z02]) | (refine EvC.exit ?_) | (refine EvC.ret ?_; try simp only [z01, z00]) | (refine EvC.reg ?_; simp (config := { maxSteps := 2000000 }) (disch := first | omega | rfl) only [sB, Nat.reduceEqDiff, ti, tj, gtn hgt, hw3, hw4]) | (refine EvC.drw (id := 18) [([(0, 0), (1, 0), (4, 0), (5, 0), (6, 0), (7, 0), (8, 0), (9, 0), (10, 0), (11, 0), (12, 0)], some 13), ([(2, 0), (3, 0), (14, 1)], some 15), ([], none)] ?_ ?_; kernel_rfl; simp (config := { maxSteps := 2000000 }) (disch := first | omega | rfl) only [sV, sD, sB, Nat.reduceEqDiff, Nat.reduceAdd, one, reduceCtorEq, ia57, ld59, st59, t0, ti, tj, l1, l2, hg2, le1, le3, isAlloc, isRead, reduceCtorEq]) | (refine EvC.condT ?_ ?_; simp (config := { maxSteps := 2000000 }) (disch := first | omega | rfl) only [sB, Nat.reduceEqDiff]; refine z03 ?_) | (refine EvC.condF ?_ ?_; simp (config := { maxSteps := 2000000 }) (disch := first | omega | rfl) only [sB, Nat.reduceEqDiff]; refine z03 ?_))
        exact ⟨j - 1 + 1 - (i + 1), by omega, _, _, i + 1, j - 1, swF i j D2, rfl, rfl, by omega, by omega, by omega, fun k q1 q2 => by
          rw [f3 a (by omega) (by omega)]
          by_cases q : k = i
          · subst q; rw [f1]; omega
          · rw [f3 k q (by omega)]; exact lo2 k q1 (by omega), fun k q1 q2 => by
          rw [f3 a (by omega) (by omega)]
          by_cases q : k = j
          · subst q; rw [f2]; omega
          · rw [f3 k (by omega) q]; exact hi2' k (by omega) q2, (by simp only [sG, reduceCtorEq, t0] <;> rfl), (by simp only [sG, Nat.reduceEqDiff, t1] <;> rfl), (by simp only [sG, Nat.reduceEqDiff, t4] <;> rfl), (by simp only [sG, Nat.reduceEqDiff] <;> rfl), (by simp only [sG, Nat.reduceEqDiff] <;> rfl), hsw _ (by rw [get_put, if_pos rfl]), hm.trans ms, hk4.two hbl2 _ _ _⟩
    · exact ⟨_, _, i1, j1, D1, rfl, rfl, hi6, hj6, hj7, lo3, hi3', (by simp only [sG, reduceCtorEq, t0] <;> rfl), (by simp only [sG, Nat.reduceEqDiff, t1] <;> rfl), (by simp only [sG, Nat.reduceEqDiff, t4] <;> rfl), (by simp only [sG, Nat.reduceEqDiff] <;> rfl), (by simp only [sG, Nat.reduceEqDiff] <;> rfl), r5, mm, hk5⟩
  clear t0 t1 t4 ti tj
  rintro st ⟨tm, H6, i, j, D2, rfl, hi, hji, hje, lo4, hi4, t0, t1, t4, ti, tj, hr6, m6, hk6⟩
  obtain ⟨fa, fb⟩ := fin D2 i j hi hji hje lo4 hi4
  clear fin
  have k1 : j < n := by omega
  have k2 : a < n := by omega
  have l1 := hr6.load k1
  have l2 := hr6.load k2
  obtain ⟨cells, hg2, hl, he⟩ := hr6.row
  have hbl2 := hk6.wf _ _ hg2
  have le1 : j * 7 + 7 ≤ cells.length := by have := mul7 k1; omega
  have le2 : a * 7 + 7 ≤ cells.length := by have := mul7 k2; omega
  have hsw := fun H1 h2 => RowB.swap (H := H) (b := b) (T := 59) hl he k1 k2 H1 h2
  have ms := Pm.swap (a := a) (b := e) (i := j) (j := a) (D := D2) (by omega) (by omega) (by omega) (by omega)
  generalize hDD : swF j a D2 = D3 at *
  generalize hE1 : D2 j = E1 at hl he hsw l1 l2
  generalize hE2 : D2 a = E2 at hl he hsw l1 l2
  have le3 : a * 7 + 7 ≤ (Hb.splice cells (j * 7) E2.seven).length := by rw [z0e (vs := E2.seven) le1]; exact le2
  repeat' (first | refine EvC.seq ?_ | refine EvC.scope ?_ | refine EvC.block ?_ | (refine EvC.skip ?_) | (refine EvC.exit ?_) | (refine EvC.ret ?_; try simp only [z01, z00]) | (refine EvC.reg ?_; simp (config := { maxSteps := 2000000 }) (disch := first | omega | rfl) only [sB, Nat.reduceEqDiff, tj]) | (refine EvC.drw (id := 21) [([(0, 0), (1, 0), (4, 0), (5, 0), (6, 0), (7, 0), (8, 0), (9, 0), (10, 0), (11, 0), (12, 0)], some 13), ([(2, 0), (3, 0), (14, 1)], some 15), ([], none)] ?_ ?_; kernel_rfl; simp (config := { maxSteps := 2000000 }) (disch := first | omega | rfl) only [sV, sD, sB, Nat.reduceEqDiff, Nat.reduceAdd, one, reduceCtorEq, ia57, ld59, st59, t0, t1, tj, l1, l2, hg2, le1, le3, isAlloc, isRead, reduceCtorEq]))
  exact z1k rfl (by simp only [sG, Nat.reduceEqDiff] <;> rfl) (by simp only [sB, Nat.reduceEqDiff] <;> rfl) ⟨j, _, D3, rfl, by omega, by omega, hsw _ (by rw [get_put, if_pos rfl]), m6.trans ms, fa, fb, hk6.two hbl2 _ _ _⟩
  end Go.Proofs.YtlllbkjiadcloaaDoor.hb
end
