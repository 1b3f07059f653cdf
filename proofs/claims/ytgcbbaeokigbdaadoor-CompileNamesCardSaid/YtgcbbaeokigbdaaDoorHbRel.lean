/- The relation between the abstract machine's state and the model's: values, heaps, steps. -/
import Derived.Test.YtgcbbaeokigbdaaDoorHbDm
import Derived.Maps.AppendAt
namespace Go.Hb
open Go Go.RowKit

/-! ## Tries -/
namespace Tr
variable {α : Type}
theorem get_parts (t : Tr α) (m : Nat) : t.get m = if m = 0 then t.val else if m % 2 = 1 then t.left.get (m / 2) else t.right.get (m / 2 - 1) := by
  cases t with
  | nil => simp [get, val, left, right]
  | node l v r =>
    rw [get]
    by_cases h0 : m = 0
    · subst h0; rfl
    · have e0 : Nat.beq m 0 = false := by rw [← Bool.not_eq_true, Nat.beq_eq]; exact h0
      rw [e0, if_neg h0]
      by_cases h1 : m % 2 = 1
      · have e1 : Nat.beq (m % 2) 1 = true := by rw [Nat.beq_eq]; exact h1
        rw [if_pos h1]; simp only [e1, left]
      · have e1 : Nat.beq (m % 2) 1 = false := by rw [← Bool.not_eq_true, Nat.beq_eq]; exact h1
        rw [if_neg h1]; simp only [e1, right]

theorem get_set : ∀ (f : Nat) (t : Tr α) (n : Nat) (a : Option α) (m : Nat), n < f → (set f t n a).get m = if m = n then a else t.get m
  | 0, _, _, _, _, h => by omega
  | f + 1, t, n, a, m, h => by
    rw [set]
    by_cases h0 : n = 0
    · subst h0
      rw [get_parts t m]
      show (Tr.node t.left a t.right).get m = _
      rw [get_parts]
      by_cases hm : m = 0
      · simp [hm, val]
      · simp [hm, left, right]
    · have e0 : Nat.beq n 0 = false := by rw [← Bool.not_eq_true, Nat.beq_eq]; exact h0
      simp only [e0]
      by_cases h1 : n % 2 = 1
      · have e1 : Nat.beq (n % 2) 1 = true := by rw [Nat.beq_eq]; exact h1
        simp only [e1]
        rw [get_parts, get_parts t m]
        by_cases hm : m = 0
        · subst hm; rw [if_pos rfl, if_neg (by omega), if_pos rfl]; rfl
        · rw [if_neg hm, if_neg hm]
          by_cases hm1 : m % 2 = 1
          · rw [if_pos hm1, if_pos hm1]
            show (set f t.left (n / 2) a).get (m / 2) = _
            rw [get_set f _ _ _ _ (by omega)]
            by_cases hmn : m = n
            · rw [if_pos hmn, if_pos (by omega)]
            · rw [if_neg hmn, if_neg (by omega)]
          · rw [if_neg hm1, if_neg hm1, if_neg (by omega)]; rfl
      · have e1 : Nat.beq (n % 2) 1 = false := by rw [← Bool.not_eq_true, Nat.beq_eq]; exact h1
        simp only [e1]
        rw [get_parts, get_parts t m]
        by_cases hm : m = 0
        · subst hm; rw [if_pos rfl, if_neg (by omega), if_pos rfl]; rfl
        · rw [if_neg hm, if_neg hm]
          by_cases hm1 : m % 2 = 1
          · rw [if_pos hm1, if_pos hm1, if_neg (by omega)]; rfl
          · rw [if_neg hm1, if_neg hm1]
            show (set f t.right (n / 2 - 1) a).get (m / 2 - 1) = _
            rw [get_set f _ _ _ _ (by omega)]
            by_cases hmn : m = n
            · rw [if_pos hmn, if_pos (by omega)]
            · rw [if_neg hmn, if_neg (by omega)]

theorem get_put (t : Tr α) (n : Nat) (a : Option α) (m : Nat) : (t.put n a).get m = if m = n then a else t.get m := get_set _ _ _ _ _ (Nat.lt_succ_self n)
end Tr

theorem Heap.get_put (H : Heap) (n : Nat) (b : Option Blk) (m : Nat) : (H.put n b).get m = if m = n then b else H.get m := Tr.get_put _ _ _ _
theorem Heap.get_new (H : Heap) (b : Option Blk) (m : Nat) : (H.new b).get m = if m = H.next then b else H.get m := Tr.get_put _ _ _ _

/-! ## Values -/

inductive Loc where
  | none
  | dead
  | live (b S es : Nat)

section
variable (σ : Nat → Loc) (τ : Nat → Value)

def AR (a a' : Addr) : Prop :=
  match σ a.block with
  | .none => False
  | .dead => True
  | .live b _ _ => a = ⟨a.block, a.off, none⟩ ∧ a' = ⟨b, a.off, none⟩

/-- (a block whose mark is 0 is only read: nothing is asked of the room in it) -/
def room (a : Addr) (c : Nat) : Prop := c ≤ maxLen ∧ ∀ b S es, σ a.block = .live b S es → es ≠ 0 → a.off + c * es = S

def BR (r r' : Nat) : Prop :=
  match σ r with
  | .none => False
  | .dead => True
  | .live b _ _ => r' = b

inductive VR : Value → Value → Prop
  | junk (v') : VR (.chan none) v'
  | tok (j : Nat) : VR (.chan (some j)) (τ j)
  | flat (v) : flat v = true → VR v v
  | ptr (a a') : AR σ a a' → VR (.pointer (some a)) (.pointer (some a'))
  | slice (a a' : Addr) (n c c' : Nat) : AR σ a a' → n ≤ c → c ≤ c' → room σ a c' → VR (.slice (some a) n c) (.slice (some a') n c')
  | map (r r' : Nat) : BR σ r r' → VR (.map (some r)) (.map (some r'))
  | func (f : FuncId) (x y x' y' : Array Value) : x.size = x'.size → (∀ (i : Nat) v v', x[i]? = some v → x'[i]? = some v' → VR v v') →
      y.size = y'.size → (∀ (i : Nat) v v', y[i]? = some v → y'[i]? = some v' → VR v v') → VR (.func (.func f) x y) (.func (.func f) x' y')
  | yield (l l' : Nat) : BR σ l l' → VR (.func (.yield l) #[] #[]) (.func (.yield l') #[] #[])
  | iface (t : TypeId) (v v') : VR v v' → VR (.iface t v) (.iface t v')
  | agg (x x' : Array Value) : x.size = x'.size → (∀ (i : Nat) v v', x[i]? = some v → x'[i]? = some v' → VR v v') → VR (.agg x) (.agg x')
  | tuple (x x' : Array Value) : x.size = x'.size → (∀ (i : Nat) v v', x[i]? = some v → x'[i]? = some v' → VR v v') → VR (.tuple x) (.tuple x')

/-- lists, place by place -/
def LR (l l' : List Value) : Prop := l.length = l'.length ∧ ∀ (i : Nat) v v', l[i]? = some v → l'[i]? = some v' → VR σ τ v v'
def RA (x x' : Array Value) : Prop := LR σ τ x.toList x'.toList
end

/-- more is known to be dead, or is there -/
def Ext (σ σ' : Nat → Loc) : Prop := ∀ i, σ i = .none ∨ σ' i = σ i ∨ (σ i ≠ .none ∧ σ' i = .dead)

theorem Ext.refl (σ) : Ext σ σ := fun _ => .inr (.inl rfl)
theorem Ext.trans {a b c : Nat → Loc} (h : Ext a b) (k : Ext b c) : Ext a c := by
  intro i
  rcases h i with h | h | ⟨h, h'⟩
  · exact .inl h
  · rcases k i with k | k | ⟨k, k'⟩
    · rw [h] at k; exact .inl k
    · exact .inr (.inl (k.trans h))
    · exact .inr (.inr ⟨by rw [← h]; exact k, k'⟩)
  · rcases k i with k | k | ⟨k, k'⟩
    · rw [h'] at k; cases k
    · exact .inr (.inr ⟨h, by rw [k, h']⟩)
    · exact .inr (.inr ⟨h, k'⟩)

theorem AR.ext {σ σ' : Nat → Loc} (he : Ext σ σ') {a a' : Addr} (h : AR σ a a') : AR σ' a a' := by
  unfold AR at *
  rcases he a.block with h0 | h0 | ⟨_, h0⟩
  · rw [h0] at h; exact h.elim
  · rw [h0]; exact h
  · rw [h0]; trivial

theorem BR.ext {σ σ' : Nat → Loc} (he : Ext σ σ') {a a' : Nat} (h : BR σ a a') : BR σ' a a' := by
  unfold BR at *
  rcases he a with h0 | h0 | ⟨_, h0⟩
  · rw [h0] at h; exact h.elim
  · rw [h0]; exact h
  · rw [h0]; trivial

theorem VR.ext {σ σ' : Nat → Loc} {τ} (he : Ext σ σ') {v v' : Value} (h : VR σ τ v v') : VR σ' τ v v' := by
  induction h with
  | junk v' => exact .junk v'
  | tok j => exact .tok j
  | flat v h => exact .flat v h
  | ptr a a' h => exact .ptr a a' (h.ext he)
  | slice a a' n c c' h h1 h2 h3 =>
    refine .slice a a' n c c' (h.ext he) h1 h2 ⟨h3.1, fun b S es hb => ?_⟩
    rcases he a.block with h0 | h0 | ⟨_, h0⟩
    · unfold AR at h; rw [h0] at h; exact h.elim
    · exact h3.2 b S es (h0 ▸ hb)
    · rw [h0] at hb; cases hb
  | map r r' h => exact .map r r' (h.ext he)
  | func f x y x' y' h1 h2 h3 h4 i1 i2 => exact .func f x y x' y' h1 i1 h3 i2
  | yield l l' h => exact .yield l l' (h.ext he)
  | iface t v v' h ih => exact .iface t v v' ih
  | agg x x' h1 h2 ih => exact .agg x x' h1 ih
  | tuple x x' h1 h2 ih => exact .tuple x x' h1 ih

section
variable {σ : Nat → Loc} {τ : Nat → Value}

theorem LR.ext {σ' : Nat → Loc} (he : Ext σ σ') {l l'} (h : LR σ τ l l') : LR σ' τ l l' := ⟨h.1, fun i v v' a b => (h.2 i v v' a b).ext he⟩
theorem LR.nil : LR σ τ [] [] := ⟨rfl, fun i v v' h => by simp at h⟩
theorem LR.cons {v v' l l'} (h : VR σ τ v v') (k : LR σ τ l l') : LR σ τ (v :: l) (v' :: l') :=
  ⟨by simp [k.1], fun i u u' a b => by
    cases i with
    | zero => simp at a b; subst a b; exact h
    | succ i => simp at a b; exact k.2 i u u' a b⟩
theorem LR.head {v v' l l'} (h : LR σ τ (v :: l) (v' :: l')) : VR σ τ v v' := h.2 0 v v' rfl rfl
theorem LR.tail {v v' l l'} (h : LR σ τ (v :: l) (v' :: l')) : LR σ τ l l' := ⟨by simpa using h.1, fun i u u' a b => h.2 (i + 1) u u' (by simpa using a) (by simpa using b)⟩
theorem LR.nil_inv {l'} (h : LR σ τ [] l') : l' = [] := List.eq_nil_of_length_eq_zero (by simpa using h.1.symm)
theorem LR.cons_inv {v l l'} (h : LR σ τ (v :: l) l') : ∃ v' r', l' = v' :: r' ∧ VR σ τ v v' ∧ LR σ τ l r' := by
  cases l' with
  | nil => have := h.1; simp at this
  | cons v' r' => exact ⟨v', r', rfl, h.head, h.tail⟩
theorem LR.append {a a' b b'} (h : LR σ τ a a') (k : LR σ τ b b') : LR σ τ (a ++ b) (a' ++ b') := by
  refine ⟨by simp [h.1, k.1], fun i v v' x y => ?_⟩
  by_cases hi : i < a.length
  · rw [List.getElem?_append_left hi] at x
    rw [List.getElem?_append_left (h.1 ▸ hi)] at y
    exact h.2 i v v' x y
  · rw [List.getElem?_append_right (by omega)] at x
    rw [List.getElem?_append_right (by have := h.1; omega), ← h.1] at y
    exact k.2 _ v v' x y
theorem LR.take {a a'} (n : Nat) (h : LR σ τ a a') : LR σ τ (a.take n) (a'.take n) := by
  refine ⟨by simp [h.1], fun i v v' x y => ?_⟩
  rw [List.getElem?_take] at x y
  split at x
  · rename_i hi; rw [if_pos hi] at y; exact h.2 i v v' x y
  · cases x
theorem LR.drop {a a'} (n : Nat) (h : LR σ τ a a') : LR σ τ (a.drop n) (a'.drop n) := by
  refine ⟨by simp [h.1], fun i v v' x y => ?_⟩
  rw [List.getElem?_drop] at x y
  exact h.2 _ v v' x y
theorem LR.get {a a'} (h : LR σ τ a a') {i : Nat} {v} (hv : a[i]? = some v) : ∃ v', a'[i]? = some v' ∧ VR σ τ v v' := by
  have hi : i < a'.length := by
    have : i < a.length := by
      rcases Nat.lt_or_ge i a.length with h | h
      · exact h
      · rw [List.getElem?_eq_none h] at hv; cases hv
    rw [← h.1]; exact this
  exact ⟨a'[i], List.getElem?_eq_getElem hi, h.2 i v _ hv (List.getElem?_eq_getElem hi)⟩
theorem LR.get_none {a a'} (h : LR σ τ a a') {i : Nat} (hv : a[i]? = none) : a'[i]? = none := by
  rw [List.getElem?_eq_none_iff] at *
  rw [← h.1]; exact hv

theorem RA.mk_agg {x x' : Array Value} (h : RA σ τ x x') : VR σ τ (.agg x) (.agg x') :=
  .agg x x' h.1 fun i v v' a b => h.2 i v v' (by simpa using a) (by simpa using b)
theorem RA.mk_tuple {x x' : Array Value} (h : RA σ τ x x') : VR σ τ (.tuple x) (.tuple x') :=
  .tuple x x' h.1 fun i v v' a b => h.2 i v v' (by simpa using a) (by simpa using b)
theorem RA.of {x x' : Array Value} (h1 : x.size = x'.size) (h2 : ∀ (i : Nat) v v', x[i]? = some v → x'[i]? = some v' → VR σ τ v v') : RA σ τ x x' :=
  ⟨h1, fun i v v' a b => h2 i v v' (by simpa using a) (by simpa using b)⟩

theorem flatL_get : ∀ {l : List Value} {i : Nat} {v : Value}, flatL l = true → l[i]? = some v → flat v = true
  | [], _, _, _, h => by simp at h
  | a :: l, 0, v, hf, h => by simp at h; subst h; simp only [flatL, Bool.and_eq_true] at hf; exact hf.1
  | a :: l, i + 1, v, hf, h => by simp only [flatL, Bool.and_eq_true] at hf; exact flatL_get hf.2 (by simpa using h)

theorem LR.flat {l : List Value} (h : flatL l = true) : LR σ τ l l :=
  ⟨rfl, fun i v v' a b => by rw [a] at b; cases b; exact .flat v (flatL_get h a)⟩

theorem VR.agg_inv {x : Array Value} {v' : Value} (h : VR σ τ (.agg x) v') : ∃ x', v' = .agg x' ∧ RA σ τ x x' := by
  cases h with
  | flat _ h => exact ⟨x, rfl, LR.flat (by obtain ⟨l⟩ := x; simpa [Hb.flat] using h)⟩
  | agg _ x' h1 h2 => exact ⟨x', rfl, RA.of h1 h2⟩
theorem VR.tuple_inv {x : Array Value} {v' : Value} (h : VR σ τ (.tuple x) v') : ∃ x', v' = .tuple x' ∧ RA σ τ x x' := by
  cases h with
  | flat _ h => exact ⟨x, rfl, LR.flat (by obtain ⟨l⟩ := x; simpa [Hb.flat] using h)⟩
  | tuple _ x' h1 h2 => exact ⟨x', rfl, RA.of h1 h2⟩
theorem VR.iface_inv {t : TypeId} {v v' : Value} (h : VR σ τ (.iface t v) v') : ∃ u', v' = .iface t u' ∧ VR σ τ v u' := by
  cases h with
  | flat _ h => exact ⟨v, rfl, .flat v (by simpa [Hb.flat] using h)⟩
  | iface _ _ u' h => exact ⟨u', rfl, h⟩
theorem VR.ptr_inv {a : Addr} {v' : Value} (h : VR σ τ (.pointer (some a)) v') : ∃ a', v' = .pointer (some a') ∧ AR σ a a' := by
  cases h with
  | flat _ h => simp [Hb.flat] at h
  | ptr _ a' h => exact ⟨a', rfl, h⟩
theorem VR.slice_inv {a : Addr} {n c : Nat} {v' : Value} (h : VR σ τ (.slice (some a) n c) v') :
    ∃ a' c', v' = .slice (some a') n c' ∧ AR σ a a' ∧ n ≤ c ∧ c ≤ c' ∧ room σ a c' := by
  cases h with
  | flat _ h => simp [Hb.flat] at h
  | slice _ a' _ _ c' h h1 h2 h3 => exact ⟨a', c', rfl, h, h1, h2, h3⟩
theorem VR.slice_none_inv {n c : Nat} {v' : Value} (h : VR σ τ (.slice none n c) v') : n = 0 ∧ c = 0 ∧ v' = .slice none 0 0 := by
  cases h with
  | flat _ h =>
    unfold Hb.flat at h
    split at h <;> simp_all
theorem VR.map_inv {r : Nat} {v' : Value} (h : VR σ τ (.map (some r)) v') : ∃ r', v' = .map (some r') ∧ BR σ r r' := by
  cases h with
  | flat _ h => simp [Hb.flat] at h
  | map _ r' h => exact ⟨r', rfl, h⟩
theorem VR.func_inv {f : FuncId} {x y : Array Value} {v' : Value} (h : VR σ τ (.func (.func f) x y) v') :
    ∃ x' y', v' = .func (.func f) x' y' ∧ RA σ τ x x' ∧ RA σ τ y y' := by
  cases h with
  | flat _ h =>
    obtain ⟨x⟩ := x
    obtain ⟨y⟩ := y
    simp only [Hb.flat, Bool.and_eq_true] at h
    exact ⟨_, _, rfl, LR.flat h.1, LR.flat h.2⟩
  | func _ _ _ x' y' h1 h2 h3 h4 => exact ⟨x', y', rfl, RA.of h1 h2, RA.of h3 h4⟩
theorem VR.yield_inv {l : Nat} {x y : Array Value} {v' : Value} (h : VR σ τ (.func (.yield l) x y) v') :
    ∃ l', v' = .func (.yield l') #[] #[] ∧ BR σ l l' ∧ x = #[] ∧ y = #[] := by
  cases h with
  | flat _ h => simp [Hb.flat] at h
  | yield _ l' h => exact ⟨l', rfl, h, rfl, rfl⟩

theorem VR.flat_eq {v v' : Value} (h : VR σ τ v v') (hf : Hb.flat v = true) : v' = v := by
  induction h with
  | junk v' => simp [Hb.flat] at hf
  | tok j => simp [Hb.flat] at hf
  | flat v h => rfl
  | ptr a a' h => simp [Hb.flat] at hf
  | slice a a' n c c' h h1 h2 h3 => simp [Hb.flat] at hf
  | map r r' h => simp [Hb.flat] at hf
  | func f x y x' y' h1 h2 h3 h4 i1 i2 =>
    obtain ⟨x⟩ := x
    obtain ⟨y⟩ := y
    simp only [Hb.flat, Bool.and_eq_true] at hf
    have ex : x' = ⟨x⟩ := Array.ext_getElem? fun i => by
      rcases Nat.lt_or_ge i x.length with hi | hi
      · have e1 : (⟨x⟩ : Array Value)[i]? = some x[i] := by simp [hi]
        have e2 : x'[i]? = some (x'[i]'(by rw [← h1]; exact hi)) := by simp
        rw [e1, e2, i1 i _ _ e1 e2 (flatL_get hf.1 (List.getElem?_eq_getElem hi))]
      · rw [Array.getElem?_eq_none (by rw [← h1]; exact hi), Array.getElem?_eq_none (by exact hi)]
    have ey : y' = ⟨y⟩ := Array.ext_getElem? fun i => by
      rcases Nat.lt_or_ge i y.length with hi | hi
      · have e1 : (⟨y⟩ : Array Value)[i]? = some y[i] := by simp [hi]
        have e2 : y'[i]? = some (y'[i]'(by rw [← h3]; exact hi)) := by simp
        rw [e1, e2, i2 i _ _ e1 e2 (flatL_get hf.2 (List.getElem?_eq_getElem hi))]
      · rw [Array.getElem?_eq_none (by rw [← h3]; exact hi), Array.getElem?_eq_none (by exact hi)]
    rw [ex, ey]
  | yield l l' h => simp [Hb.flat] at hf
  | iface t v v' h ih => rw [ih (by simpa [Hb.flat] using hf)]
  | agg x x' h1 h2 ih =>
    obtain ⟨x⟩ := x
    simp only [Hb.flat] at hf
    have ex : x' = ⟨x⟩ := Array.ext_getElem? fun i => by
      rcases Nat.lt_or_ge i x.length with hi | hi
      · have e1 : (⟨x⟩ : Array Value)[i]? = some x[i] := by simp [hi]
        have e2 : x'[i]? = some (x'[i]'(by rw [← h1]; exact hi)) := by simp
        rw [e1, e2, ih i _ _ e1 e2 (flatL_get hf (List.getElem?_eq_getElem hi))]
      · rw [Array.getElem?_eq_none (by rw [← h1]; exact hi), Array.getElem?_eq_none (by exact hi)]
    rw [ex]
  | tuple x x' h1 h2 ih =>
    obtain ⟨x⟩ := x
    simp only [Hb.flat] at hf
    have ex : x' = ⟨x⟩ := Array.ext_getElem? fun i => by
      rcases Nat.lt_or_ge i x.length with hi | hi
      · have e1 : (⟨x⟩ : Array Value)[i]? = some x[i] := by simp [hi]
        have e2 : x'[i]? = some (x'[i]'(by rw [← h1]; exact hi)) := by simp
        rw [e1, e2, ih i _ _ e1 e2 (flatL_get hf (List.getElem?_eq_getElem hi))]
      · rw [Array.getElem?_eq_none (by rw [← h1]; exact hi), Array.getElem?_eq_none (by exact hi)]
    rw [ex]

/-- a value that is one cell is related to one -/
theorem VR.one {v v' : Value} (hτ : ∀ j, (τ j).oneCell' = true) (h : VR σ τ v v') (ho : Hb.one v = true) : v'.oneCell' = true := by
  cases h with
  | junk => simp [Hb.one] at ho
  | tok j => exact hτ j
  | flat _ h => cases v <;> simp_all [Hb.one, Value.oneCell']
  | agg => simp [Hb.one] at ho
  | tuple => simp [Hb.one] at ho
  | _ => rfl

theorem VR.cells {v v' : Value} (hτ : ∀ j, (τ j).oneCell' = true) (h : VR σ τ v v') (ho : v.cells.toList.all Hb.one = true) : RA σ τ v.cells v'.cells := by
  have single : ∀ {u u' : Value}, VR σ τ u u' → RA σ τ #[u] #[u'] := fun h => LR.cons h LR.nil
  cases h with
  | junk => simp [Value.cells, Hb.one] at ho
  | tok j =>
    have : (τ j).cells = #[τ j] := by have := hτ j; cases hv : τ j <;> simp_all [Value.cells, Value.oneCell']
    rw [this]
    exact single (.tok j)
  | flat _ h =>
    cases v with
    | agg x => obtain ⟨l⟩ := x; exact LR.flat (l := l) (by simpa [Hb.flat] using h)
    | tuple x => simp [Value.cells, Hb.one] at ho
    | _ => exact single (.flat _ h)
  | agg x x' h1 h2 => exact RA.of h1 h2
  | tuple x x' h1 h2 => simp [Value.cells, Hb.one] at ho
  | ptr a a' h => exact single (.ptr a a' h)
  | slice a a' n c c' h h1 h2 h3 => exact single (.slice a a' n c c' h h1 h2 h3)
  | map r r' h => exact single (.map r r' h)
  | func f x y x' y' h1 h2 h3 h4 => exact single (.func f x y x' y' h1 h2 h3 h4)
  | yield l l' h => exact single (.yield l l' h)
  | iface t v v' h => exact single (.iface t v v' h)

theorem LR.one {l l' : List Value} (hτ : ∀ j, (τ j).oneCell' = true) (h : LR σ τ l l') (ho : l.all Hb.one = true) : ∀ u ∈ l', u.oneCell' = true := by
  intro u hu
  obtain ⟨i, hi, rfl⟩ := List.getElem_of_mem hu
  have hi' : i < l.length := h.1 ▸ hi
  have := List.all_eq_true.1 ho l[i] (List.getElem_mem hi')
  exact (h.2 i _ _ (List.getElem?_eq_getElem hi') (List.getElem?_eq_getElem hi)).one hτ this
end
end Go.Hb
