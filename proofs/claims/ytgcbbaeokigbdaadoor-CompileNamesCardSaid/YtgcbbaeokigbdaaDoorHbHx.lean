/- Heaps that grow; terms as trees, and how they lie in a heap. -/
import Derived.Test.YtgcbbaeokigbdaaDoorHbSim
namespace Go.Hb
open Go Go.RowKit

def Heap.wf (H : Heap) : Prop := ∀ i B, H.get i = some B → i < H.next

/-- what was there is as it was -/
structure HX (H H' : Heap) : Prop where
  next : H.next ≤ H'.next
  keep : ∀ i, i < H.next → H'.get i = H.get i
  wf : H'.wf

theorem HX.refl {H : Heap} (h : H.wf) : HX H H := ⟨Nat.le_refl _, fun _ _ => rfl, h⟩
theorem HX.trans {A B C : Heap} (h : HX A B) (k : HX B C) : HX A C :=
  ⟨Nat.le_trans h.next k.next, fun i hi => by rw [k.keep i (Nat.lt_of_lt_of_le hi h.next), h.keep i hi], k.wf⟩
theorem HX.new {A H : Heap} (h : HX A H) (B : Option Blk) : HX A (H.new B) := by
  refine ⟨Nat.le_succ_of_le h.next, fun i hi => ?_, fun i C hC => ?_⟩
  · rw [Heap.get_new, if_neg (by have := h.next; omega)]; exact h.keep i hi
  · rw [Heap.get_new] at hC
    show i < H.next + 1
    by_cases hi : i = H.next
    · omega
    · rw [if_neg hi] at hC; have := h.wf i C hC; omega
theorem HX.put {A H : Heap} (h : HX A H) {i : Nat} (hi : A.next ≤ i) (hl : i < H.next) (B : Option Blk) : HX A (H.put i B) := by
  refine ⟨h.next, fun j hj => ?_, fun j C hC => ?_⟩
  · rw [Heap.get_put, if_neg (by omega)]; exact h.keep j hj
  · rw [Heap.get_put] at hC
    show j < H.next
    by_cases hj : j = i
    · omega
    · rw [if_neg hj] at hC; exact h.wf j C hC
/-- numbers are left out -/
theorem HX.bump {A H : Heap} (h : HX A H) (k : Nat) : HX A ⟨H.next + k, H.t⟩ :=
  ⟨Nat.le_trans h.next (Nat.le_add_right _ _), h.keep, fun i B hB => Nat.lt_of_lt_of_le (h.wf i B hB) (Nat.le_add_right _ _)⟩

theorem HX.cells {H H' : Heap} (h : HX H H') {i : Nat} {cs : List Value} (hw : H.wf) (hc : H.cells i = some cs) : H'.cells i = some cs := by
  have hlt : i < H.next := by
    unfold Heap.cells at hc
    cases hg : H.get i with
    | none => rw [hg] at hc; cases hc
    | some B => exact hw i B hg
  unfold Heap.cells at hc ⊢
  rw [h.keep i hlt]; exact hc
theorem HX.load {H H' : Heap} (h : HX H H') {a : Addr} {n : Nat} {l : List Value} (hw : H.wf) (hl : H.load a n = some l) : H'.load a n = some l := by
  unfold Heap.load at hl ⊢
  split at hl
  · rename_i cs hs hc
    rw [hs, h.cells hw hc]
    exact hl
  · cases hl

theorem heapW_wf {P : Program} {W : World} : (heapW P W).wf := by
  intro i B hB
  rw [heapW_get] at hB
  split at hB
  · show i < deadAt P W + 1
    unfold deadAt; omega
  · cases hB

/-! ## Terms -/
inductive Tm where
  | mk (kind : Int) (name num : ByteArray) (bits var : Int) (args : List Tm)

def Tm.args : Tm → List Tm | .mk _ _ _ _ _ l => l
def Tm.kind : Tm → Int | .mk k _ _ _ _ _ => k
def Tm.name : Tm → ByteArray | .mk _ s _ _ _ _ => s
def Tm.num : Tm → ByteArray | .mk _ _ s _ _ _ => s
def Tm.bits : Tm → Int | .mk _ _ _ b _ _ => b
def Tm.var : Tm → Int | .mk _ _ _ _ v _ => v

def i64 (n : Int) : Prop := -9223372036854775808 ≤ n ∧ n ≤ 9223372036854775807
def u64 (n : Int) : Prop := 0 ≤ n ∧ n ≤ 18446744073709551615

/-- a term lies in six cells: 'a', 'n', 'c': its arguments' slice -/
inductive RepT (H : Heap) : Tm → List Value → Prop
  | mk (k : Int) (s u : ByteArray) (b v : Int) (l : List Tm) (a : Option Addr) (c : Nat) (cells : Nat → List Value) : i64 k → s.size ≤ maxLen → u.size ≤ maxLen → u64 b → i64 v → l.length ≤ maxLen →
      l.length ≤ c → c ≤ maxLen → (a = none → l = [] ∧ c = 0) →
      (∀ i ad, i < l.length → a = some ad → ad.spot = none ∧ H.load ⟨ad.block, ad.off + i * 6, none⟩ 6 = some (cells i)) → (∀ i t, l[i]? = some t → RepT H t (cells i)) →
      RepT H (.mk k s u b v l) [.int .i64 k, .string s, .string u, .int .u64 b, .int .i64 v, .slice a l.length c]

theorem RepT.mono {H H' : Heap} (h : HX H H') (hw : H.wf) : ∀ {t : Tm} {cs : List Value}, RepT H t cs → RepT H' t cs := by
  intro t cs r
  induction r with
  | mk k s u b v l a c cells h1 h2 h3 h4 h5 h6 h7 h8 h9 h10 h11 ih =>
    exact .mk k s u b v l a c cells h1 h2 h3 h4 h5 h6 h7 h8 h9 (fun i ad hi ha => ⟨(h10 i ad hi ha).1, h.load hw (h10 i ad hi ha).2⟩) ih

/-- a list of terms under a slice -/
structure RepL (H : Heap) (l : List Tm) (a : Option Addr) (c : Nat) (cells : Nat → List Value) : Prop where
  len : l.length ≤ c
  cap : c ≤ maxLen
  nil : a = none → l = [] ∧ c = 0
  load : ∀ i ad, i < l.length → a = some ad → ad.spot = none ∧ H.load ⟨ad.block, ad.off + i * 6, none⟩ 6 = some (cells i)
  rep : ∀ i t, l[i]? = some t → RepT H t (cells i)

theorem RepL.mono {H H' : Heap} (h : HX H H') (hw : H.wf) {l : List Tm} {a : Option Addr} {c : Nat} {cells : Nat → List Value} (r : RepL H l a c cells) : RepL H' l a c cells :=
  ⟨r.len, r.cap, r.nil, fun i ad hi ha => ⟨(r.load i ad hi ha).1, h.load hw (r.load i ad hi ha).2⟩, fun i t ht => (r.rep i t ht).mono h hw⟩

theorem RepT.inv {H : Heap} {t : Tm} {cs : List Value} (r : RepT H t cs) : ∃ a c cells, cs = [.int .i64 t.kind, .string t.name, .string t.num, .int .u64 t.bits, .int .i64 t.var, .slice a t.args.length c] ∧
    i64 t.kind ∧ t.name.size ≤ maxLen ∧ t.num.size ≤ maxLen ∧ u64 t.bits ∧ i64 t.var ∧ RepL H t.args a c cells := by
  cases r with
  | mk k s u b v l a c cells h1 h2 h3 h4 h5 h6 h7 h8 h9 h10 h11 => exact ⟨a, c, cells, rfl, h1, h2, h3, h4, h5, h7, h8, h9, h10, h11⟩

/-- an argument's place -/
theorem RepL.at {H : Heap} {l : List Tm} {a : Option Addr} {c : Nat} {cells : Nat → List Value} (r : RepL H l a c cells) {i : Nat} {t : Tm} (h : l[i]? = some t) :
    ∃ b o, a = some ⟨b, o, none⟩ ∧ H.load ⟨b, o + i * 6, none⟩ 6 = some (cells i) ∧ RepT H t (cells i) := by
  have hi : i < l.length := (List.getElem?_eq_some_iff.1 h).1
  cases a with
  | none => obtain ⟨rfl, _⟩ := r.nil rfl; simp at hi
  | some ad =>
    obtain ⟨h1, h2⟩ := r.load i ad hi rfl
    obtain ⟨b, o, s⟩ := ad
    obtain rfl : s = none := h1
    exact ⟨b, o, rfl, h2, r.rep i t h⟩
end Go.Hb
