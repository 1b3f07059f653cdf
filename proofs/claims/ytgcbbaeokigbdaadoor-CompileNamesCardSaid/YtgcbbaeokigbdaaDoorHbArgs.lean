/- Arguments as tokens. -/
import Derived.Test.YtgcbbaeokigbdaaDoorHbClose
import Derived.Carry
namespace Go.Hb
open Go Go.RowKit

def toksFrom : Nat → List (Option Nat) → List Value
  | _, [] => []
  | o, none :: l => .chan (some o) :: toksFrom (o + 1) l
  | o, some n :: l => .agg ⟨(List.range n).map fun i => .chan (some (o + i))⟩ :: toksFrom (o + n) l

def Fits (s : Option Nat) (v : Value) : Prop :=
  match s with
  | none => v.oneCell' = true
  | some n => ∃ cs, v = .agg cs ∧ cs.size = n ∧ ∀ (i : Nat) u, cs[i]? = some u → u.oneCell' = true

def FitsL : List (Option Nat) → List Value → Prop
  | [], [] => True
  | s :: l, v :: vs => Fits s v ∧ FitsL l vs
  | _, _ => False

def cellsOfL (vs : List Value) : List Value := vs.flatMap fun v => v.cells.toList

def tokT (vs : List Value) (j : Nat) : Value := ((cellsOfL vs)[j]?).getD (.bool true)

theorem cells_one {v : Value} (h : v.oneCell' = true) : v.cells = #[v] := by
  cases v <;> simp_all [Value.oneCell', Value.cells]

theorem fits_cells : ∀ {sh : List (Option Nat)} {vs : List Value}, FitsL sh vs → ∀ u ∈ cellsOfL vs, u.oneCell' = true
  | [], [], _, u, hu => by cases hu
  | s :: l, v :: vs, h, u, hu => by
    unfold cellsOfL at hu
    rw [List.flatMap_cons, List.mem_append] at hu
    rcases hu with hu | hu
    · cases s with
      | none =>
        have h1 : v.oneCell' = true := h.1
        rw [cells_one h1] at hu
        simp at hu
        rw [hu]; exact h1
      | some n =>
        obtain ⟨cs, rfl, _, h3⟩ := h.1
        have hu' : u ∈ cs.toList := hu
        obtain ⟨i, hi, rfl⟩ := List.getElem_of_mem hu'
        exact h3 i _ (by simp at hi ⊢)
    · exact fits_cells h.2 u hu
  | [], _ :: _, h, _, _ => h.elim
  | _ :: _, [], h, _, _ => h.elim

theorem tokT_one {sh : List (Option Nat)} {vs : List Value} (h : FitsL sh vs) (j : Nat) : (tokT vs j).oneCell' = true := by
  unfold tokT
  cases hj : (cellsOfL vs)[j]? with
  | none => rfl
  | some u => exact fits_cells h u (List.mem_of_getElem? hj)

theorem toks_rel {σ : Nat → Loc} : ∀ {sh : List (Option Nat)} {vs : List Value} (F pre post : List Value) (τ : Nat → Value), F = pre ++ cellsOfL vs ++ post → (∀ j u, F[j]? = some u → τ j = u) → FitsL sh vs → LR σ τ (toksFrom pre.length sh) vs
  | [], [], F, pre, post, τ, hF, hτ, _ => LR.nil
  | none :: l, v :: vs, F, pre, post, τ, hF, hτ, h => by
    have h1 : v.oneCell' = true := h.1
    have hc : cellsOfL (v :: vs) = v :: cellsOfL vs := by unfold cellsOfL; rw [List.flatMap_cons, cells_one h1]; rfl
    have ih := toks_rel (σ := σ) F (pre ++ [v]) post τ (by rw [hF, hc]; simp) hτ h.2
    rw [List.length_append] at ih
    refine LR.cons ?_ ih
    have : τ pre.length = v := hτ _ _ (by rw [hF, hc]; simp)
    have hv := VR.tok (σ := σ) (τ := τ) pre.length
    rw [this] at hv; exact hv
  | some n :: l, v :: vs, F, pre, post, τ, hF, hτ, h => by
    obtain ⟨cs, rfl, hn, _⟩ := h.1
    have hc : cellsOfL (.agg cs :: vs) = cs.toList ++ cellsOfL vs := by unfold cellsOfL; rw [List.flatMap_cons]; rfl
    have ih := toks_rel (σ := σ) F (pre ++ cs.toList) post τ (by rw [hF, hc]; simp) hτ h.2
    have hl : (pre ++ cs.toList).length = pre.length + n := by simp [hn]
    rw [hl] at ih
    refine LR.cons (RA.mk_agg ⟨by simp [hn], fun i a a' ha ha' => ?_⟩) ih
    have hlt : i < cs.size := (Array.getElem?_eq_some_iff.1 (by simpa using ha')).1
    simp only [List.getElem?_map, Option.map_eq_some_iff] at ha
    obtain ⟨k, hk, rfl⟩ := ha
    rw [List.getElem?_range (by omega)] at hk
    cases hk
    have : τ (pre.length + i) = a' := hτ _ _ (by
      rw [hF, hc, List.append_assoc, List.getElem?_append_right (by omega), Nat.add_sub_cancel_left, List.append_assoc, List.getElem?_append_left (by simpa using hlt)]
      exact ha')
    have hv := VR.tok (σ := σ) (τ := τ) (pre.length + i)
    rw [this] at hv; exact hv
  | [], _ :: _, _, _, _, _, _, _, h => h.elim
  | none :: _, [], _, _, _, _, _, _, h => h.elim
  | some _ :: _, [], _, _, _, _, _, _, h => h.elim

theorem toks_args {σ : Nat → Loc} {sh : List (Option Nat)} {vs : List Value} (h : FitsL sh vs) : LR σ (tokT vs) (toksFrom 0 sh) vs :=
  toks_rel (cellsOfL vs) [] [] (tokT vs) (by simp) (fun j u hj => by unfold tokT; rw [hj]; rfl) h

theorem cell_one {P : Program} {w : World} {r : Reach} {base : Nat} {t : TypeId} {v : Value} (h : Cell.okWide P w r base t v) : v.oneCell' = true := by
  cases v with
  | agg cs => unfold Cell.okWide Cell.ok at h; cases hu : P.underlying t with
    | none => simp [hu] at h
    | some d => cases d <;> simp [hu] at h
  | tuple cs => unfold Cell.okWide Cell.ok at h; cases hu : P.underlying t with
    | none => simp [hu] at h
    | some d => cases d <;> simp [hu] at h
  | _ => rfl

theorem fits_struct {P : Program} {w : World} {r : Reach} {base : Nat} {t : TypeId} {v : Value} {fs : Array Field} {n : Nat} (hu : P.underlying t = some (.struct fs)) (hn : P.cellsOf t = n) (h : Value.okWide P w r base t v) : Fits (some n) v := by
  unfold Value.okWide at h
  rw [hu] at h
  obtain ⟨cs, rfl, hs, ts, _, _, hc⟩ := h
  exact ⟨cs, rfl, hs.trans hn, fun i u hi => let ⟨_, _, hk⟩ := hc i u hi; cell_one hk⟩
end Go.Hb
