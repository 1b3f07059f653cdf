/- One operation of the abstract machine is one of the model's: those that lay blocks, build, take apart. -/
import Derived.Test.YtgcbbaeokigbdaaDoorHbOps1
namespace Go.Hb
open Go Go.RowKit

section
variable {P : Program} {N : Nat} {w0 : World} {τ : Nat → Value} {σ : Nat → Loc} {H : Heap} {w : World} {ρ ρ' : Operand → Value} {o : Oper}

theorem OpR.ofRow (hH : HR P N w0 τ σ H w) {s : Sem Next} {cs : List Value} {cs' : Array Value} {e : TypeId} (hr : LR σ τ cs cs'.toList)
    (hs : ∀ v', (newRow e cs').run P w = .ok ⟨w.heap.size, 0, none⟩ (w.alloc (.cells cs' e)) → v' = Value.pointer (some ⟨w.heap.size, 0, none⟩) → s.run P w = .ok (.value v') (w.alloc (.cells cs' e))) :
    OpR P N w0 τ σ H w s (.val (.pointer (some ⟨H.next, 0, none⟩)) (H.new (some (.row cs e)))) := by
  obtain ⟨σ', hrun, rfl, hH', hst⟩ := newRow_sound (e := e) hH hr
  exact ⟨_, _, _, _, hs _ hrun rfl, .inl rfl, .ptr _ _ AR_new, hH', hst⟩

theorem flat_cells {z : Value} (h : flat z = true) : LR σ τ z.cells.toList z.cells.toList := by
  cases z with
  | agg x => obtain ⟨l⟩ := x; exact LR.flat (l := l) (by simpa [flat] using h)
  | _ => exact LR.cons (.flat _ h) LR.nil

theorem alloc_sound (hH : HR P N w0 τ σ H w) {e : TypeId} {z : Value} (hz : pureRun P (zeroValue e) = some z) (hf : flat z = true) :
    OpR P N w0 τ σ H w (do pure (Next.value (← Instr.alloc e true (.tuple #[])))) (.val (.pointer (some ⟨H.next, 0, none⟩)) (H.new (some (.row z.cells.toList e)))) := by
  refine OpR.ofRow hH (cs' := z.cells) (flat_cells hf) fun v' hrun hv' => ?_
  subst hv'
  have hz' := pureRun_run _ hz w
  simp [Instr.alloc, Sem.run_bind, hz', newVar, hrun]

theorem box_sound (hH : HR P N w0 τ σ H w) (hτ : ∀ j, (τ j).oneCell' = true) {e : TypeId} {v v' : Value} (hv : VR σ τ v v') (ho : v.cells.toList.all one = true) :
    OpR P N w0 τ σ H w (do pure (Next.value (← Instr.box e v'))) (.val (.pointer (some ⟨H.next, 0, none⟩)) (H.new (some (.row v.cells.toList e)))) := by
  refine OpR.ofRow hH (cs' := v'.cells) (hv.cells hτ ho) fun u hrun hu => ?_
  subst hu
  simp [Instr.box, Sem.run_bind, newVar, hrun]

/-! ## build -/
theorem foldl_set_rel : ∀ (l l' : List Value) (k off : Nat) (acc acc' : Array Value), LR σ τ l l' → RA σ τ acc acc' →
    RA σ τ ((l.zipIdx k).foldl (fun cs (c, j) => cs.setIfInBounds (off + j) c) acc) ((l'.zipIdx k).foldl (fun cs (c, j) => cs.setIfInBounds (off + j) c) acc')
  | [], l', k, off, acc, acc', h, ha => by rw [h.nil_inv]; exact ha
  | v :: l, l', k, off, acc, acc', h, ha => by
    obtain ⟨v', r', rfl, hv, hr⟩ := h.cons_inv
    simp only [List.zipIdx_cons, List.foldl_cons]
    refine foldl_set_rel l r' (k + 1) off _ _ hr ?_
    refine ⟨by simpa using ha.1, fun i u u' x y => ?_⟩
    simp only [Array.toList_setIfInBounds, List.getElem?_set] at x y
    have hl := ha.1
    split at x
    · rename_i hi
      rw [if_pos hi] at y
      split at x
      · rename_i hb
        rw [if_pos (by simp at hl hb ⊢; omega)] at y
        cases x; cases y; exact hv
      · cases x
    · rename_i hi
      rw [if_neg hi] at y
      exact ha.2 i u u' x y

/-- parts, place by place -/
def PtR (σ : Nat → Loc) (τ : Nat → Value) : List (Nat × Value) → List (Nat × Value) → Prop
  | [], [] => True
  | p :: l, q :: l' => q.1 = p.1 ∧ VR σ τ p.2 q.2 ∧ p.2.cells.toList.all one = true ∧ PtR σ τ l l'
  | _, _ => False

theorem fill_rel (hτ : ∀ j, (τ j).oneCell' = true) (place : Nat → Option (Nat × Nat)) : ∀ (l l' : List (Nat × Value)) (cs cs' r : Array Value), PtR σ τ l l' → RA σ τ cs cs' →
    Instr.fill place cs l = some r → ∃ r', Instr.fill place cs' l' = some r' ∧ RA σ τ r r'
  | [], [], cs, cs', r, _, hc, h => by simp only [Instr.fill, Option.some.injEq] at h; subst h; exact ⟨cs', rfl, hc⟩
  | [], _ :: _, _, _, _, hp, _, _ => hp.elim
  | _ :: _, [], _, _, _, hp, _, _ => hp.elim
  | (i, v) :: l, (j, v') :: l', cs, cs', r, ⟨hij, hv, ho, hp⟩, hc, h => by
    have hij : j = i := hij
    subst hij
    simp only [Instr.fill] at h ⊢
    cases hpl : place j with
    | none => rw [hpl] at h; cases h
    | some os =>
      obtain ⟨off, size⟩ := os
      rw [hpl] at h
      simp only at h ⊢
      have hcl := hv.cells hτ ho
      have hsz : v'.cells.size = v.cells.size := by have := hcl.1; simpa using this.symm
      have hcs : cs'.size = cs.size := by have := hc.1; simpa using this.symm
      rw [hsz, hcs]
      split at h
      · cases h
      · rename_i hg
        rw [if_neg hg]
        refine fill_rel hτ place l l' _ _ r hp ?_ h
        rw [← Array.foldl_toList, ← Array.foldl_toList, Array.toList_zipIdx, Array.toList_zipIdx]
        exact foldl_set_rel _ _ 0 off cs cs' hcl hc

theorem ptR_map (parts : List (Nat × Operand)) (hρ : ∀ p ∈ parts, VR σ τ (ρ p.2) (ρ' p.2)) (ho : parts.all (fun p => (ρ p.2).cells.toList.all one) = true) :
    PtR σ τ (parts.map fun p => (p.1, ρ p.2)) (parts.map fun p => (p.1, ρ' p.2)) := by
  induction parts with
  | nil => trivial
  | cons p l ih =>
    simp only [List.all_cons, Bool.and_eq_true] at ho
    exact ⟨rfl, hρ p (by simp), ho.1, ih (fun q hq => hρ q (by simp [hq])) ho.2⟩

theorem mapM_places (fs : List Field) : ∀ (r : List (Nat × Nat)), pureRun P (fs.mapM fun f => do pure (f.offset, ← sizeOf f.type)) = some r →
    ∀ w, (fs.mapM fun f => do pure (f.offset, ← sizeOf f.type) : Sem (List (Nat × Nat))).run P w = .ok r w :=
  fun r h w => pureRun_run _ h w
end
end Go.Hb
