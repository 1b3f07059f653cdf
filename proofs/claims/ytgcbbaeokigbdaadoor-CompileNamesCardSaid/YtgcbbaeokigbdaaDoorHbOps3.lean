/- One operation of the abstract machine is one of the model's: build, slices, append, copy. -/
import Derived.Test.YtgcbbaeokigbdaaDoorHbOps2
namespace Go.Hb
open Go Go.RowKit

theorem pureRun_bind (P : Program) {α β : Type} : ∀ (s : Sem α) (f : α → Sem β), pureRun P (s >>= f) = (pureRun P s).bind fun a => pureRun P (f a) := by
  intro s f
  show pureRun P (Sem.bind s f) = _
  induction s with
  | pure a => rfl
  | program k ih => exact ih P
  | mark m k ih => exact ih
  | _ => rfl

section
variable {P : Program} {N : Nat} {w0 : World} {τ : Nat → Value} {σ : Nat → Loc} {H : Heap} {w : World} {ρ ρ' : Operand → Value} {o : Oper}

theorem build_sound (hτ : ∀ j, (τ j).oneCell' = true) {t : TypeId} {ps ps' : Array (Nat × Value)} {z v : Value} (hz : pureRun P (zeroValue t) = some z) (hf : flat z = true)
    (hp : PtR σ τ ps.toList ps'.toList) (h : pureRun P (Instr.build t ps) = some v) : ∃ v', (∀ w, (Instr.build t ps').run P w = .ok v' w) ∧ VR σ τ v v' := by
  have hz0 := pureRun_run _ hz
  unfold Instr.build at h ⊢
  rw [pureRun_bind, hz, Option.bind_some, pureRun_bind] at h
  cases hu : pureRun P (underlying t) with
  | none => rw [hu] at h; cases h
  | some d =>
    have hu0 := pureRun_run _ hu
    rw [hu, Option.bind_some] at h
    cases d with
    | struct fields =>
      simp only at h
      rw [pureRun_bind] at h
      generalize hm : (fields.mapM fun f => do pure (f.offset, ← sizeOf f.type) : Sem (Array (Nat × Nat))) = m at h
      cases hpl : pureRun P m with
      | none => rw [hpl] at h; cases h
      | some places =>
        have hpl0 := pureRun_run _ hpl
        rw [hpl, Option.bind_some] at h
        cases hfl : Instr.fill (places[·]?) z.cells ps.toList with
        | none => rw [hfl] at h; simp [pureRun, stuck] at h
        | some r =>
          rw [hfl] at h
          have hv : v = .agg r := by simpa [pureRun, pure] using h.symm
          obtain ⟨r', hr', hrr⟩ := fill_rel hτ _ _ _ _ _ r hp (flat_cells (σ := σ) (τ := τ) hf) hfl
          refine ⟨.agg r', fun w => ?_, hv ▸ RA.mk_agg hrr⟩
          subst hm
          simp only [Sem.run_bind, hz0, Result.andThen_ok, hu0, hpl0, hr', Sem.run_pure]
    | array n e =>
      simp only at h
      rw [pureRun_bind] at h
      cases hs : pureRun P (sizeOf e) with
      | none => rw [hs] at h; cases h
      | some sz =>
        have hs0 := pureRun_run _ hs
        rw [hs, Option.bind_some] at h
        cases hfl : Instr.fill (fun i => some (i * sz, sz)) z.cells ps.toList with
        | none => rw [hfl] at h; simp [pureRun, stuck] at h
        | some r =>
          rw [hfl] at h
          have hv : v = .agg r := by simpa [pureRun, pure] using h.symm
          obtain ⟨r', hr', hrr⟩ := fill_rel hτ _ _ _ _ _ r hp (flat_cells (σ := σ) (τ := τ) hf) hfl
          refine ⟨.agg r', fun w => ?_, hv ▸ RA.mk_agg hrr⟩
          simp only [Sem.run_bind, hz0, Result.andThen_ok, hu0, hs0, hr', Sem.run_pure]
    | _ => simp [pureRun, stuck] at h

/-! ## slices of slices -/
theorem intBetween_inv {v : Value} {hi n : Nat} (h : intBetween v hi = some n) : ∃ k i, v = .int k i ∧ 0 ≤ i ∧ i ≤ (hi : Int) ∧ n = i.toNat := by
  cases v with
  | int k i =>
    simp only [intBetween] at h
    split at h
    · rename_i hc; cases h; exact ⟨k, i, rfl, hc.1, hc.2, rfl⟩
    · cases h
  | _ => cases h

theorem sliceBound_run {k : IntKind} {i : Int} {y : Nat} (code : BoundsCode) (h0 : 0 ≤ i) (h1 : i ≤ y) (w : World) : (Instr.sliceBound (.int k i) y code).run P w = .ok i.toNat w := by
  simp [Instr.sliceBound, asIntOf, Sem.run_bind, h0, h1]

theorem dslice_sound (hH : HR P N w0 τ σ H w) {t : TypeId} {x x' : Value} {lo hi lo' hi' : Option Value} {dr : Dr} (hx : VR σ τ x x')
    (hlo : ∀ v, lo = some v → ∃ v', lo' = some v' ∧ VR σ τ v v') (hlo0 : lo = none → lo' = none) (hhi : ∀ v, hi = some v → ∃ v', hi' = some v' ∧ VR σ τ v v') (hhi0 : hi = none → hi' = none)
    (h : dslice P t x lo hi none H = some dr) : OpR P N w0 τ σ H w (do pure (Next.value (← Instr.sliceAt t x' lo' hi' none))) dr := by
  unfold dslice at h
  cases hu : P.underlying t with
  | none => rw [hu] at h; cases h
  | some d =>
    rw [hu] at h
    cases d with
    | slice e =>
      cases x with
      | slice a n c =>
        simp only at h
        -- the shape of the slice
        have hsh : ∃ a' c', x' = .slice a' n c' ∧ c ≤ c' ∧ n ≤ c ∧ (∀ ad, a = some ad → ∃ ad', a' = some ad' ∧ AR σ ad ad' ∧ room σ ad c') ∧ (a = none → a' = none ∧ n = 0 ∧ c = 0 ∧ c' = 0) := by
          cases a with
          | some ad =>
            obtain ⟨a', c', rfl, h1, h2, h3, h4⟩ := hx.slice_inv
            exact ⟨some a', c', rfl, h3, h2, fun ad' e => (by cases e; exact ⟨a', rfl, h1, h4⟩), fun e => by cases e⟩
          | none =>
            obtain ⟨rfl, rfl, rfl⟩ := hx.slice_none_inv
            exact ⟨none, 0, rfl, Nat.le_refl _, Nat.le_refl _, (fun ad e => by cases e), fun _ => ⟨rfl, rfl, rfl, rfl⟩⟩
        obtain ⟨a', c', rfl, hcc, hnc, hsome, hnone⟩ := hsh
        cases hi0 : P.info? e with
        | none => rw [hi0] at h; cases h
        | some ie =>
        rw [hi0] at h
        cases hhv : bound hi n c with
        | none => rw [hhv] at h; cases h
        | some hN =>
          rw [hhv] at h
          simp only at h
          cases hlv : bound lo 0 hN with
          | none => rw [hlv] at h; cases h
          | some l =>
            rw [hlv] at h
            simp only at h
            have hh : hN ≤ c ∧ ((hi' = none ∧ hN = n) ∨ ∃ k i, hi' = some (.int k i) ∧ 0 ≤ i ∧ i ≤ (c' : Int) ∧ hN = i.toNat) := by
              cases hi with
              | none => simp only [bound, Option.some.injEq] at hhv; subst hhv; exact ⟨hnc, .inl ⟨hhi0 rfl, rfl⟩⟩
              | some v =>
                obtain ⟨v', hv', hr⟩ := hhi v rfl
                obtain ⟨k, i, rfl, i0, i1, rfl⟩ := intBetween_inv hhv
                have := hr.flat_eq rfl
                subst this
                exact ⟨by omega, .inr ⟨k, i, hv', i0, by omega, rfl⟩⟩
            have hl : l ≤ hN ∧ ((lo' = none ∧ l = 0) ∨ ∃ k i, lo' = some (.int k i) ∧ 0 ≤ i ∧ i ≤ (hN : Int) ∧ l = i.toNat) := by
              cases lo with
              | none => simp only [bound, Option.some.injEq] at hlv; subst hlv; exact ⟨Nat.zero_le _, .inl ⟨hlo0 rfl, rfl⟩⟩
              | some v =>
                obtain ⟨v', hv', hr⟩ := hlo v rfl
                obtain ⟨k, i, rfl, i0, i1, rfl⟩ := intBetween_inv hlv
                have := hr.flat_eq rfl
                subst this
                exact ⟨by omega, .inr ⟨k, i, hv', i0, i1, rfl⟩⟩
            obtain ⟨hh1, hh2⟩ := hh
            obtain ⟨hl1, hl2⟩ := hl
            have hbounds : ∀ w, (Instr.sliceBounds true n c' lo' hi' none).run P w = .ok (l, hN, c') w := by
              intro w
              rcases hh2 with ⟨rfl, e1⟩ | ⟨k, i, rfl, i0, i1, e1⟩
              · rcases hl2 with ⟨rfl, e2⟩ | ⟨k2, i2, rfl, j0, j1, e2⟩
                · simp [Instr.sliceBounds, e1, e2]
                · rw [e1] at j1
                  simp [Instr.sliceBounds, e1, e2, sliceBound_run _ j0 j1]
              · rcases hl2 with ⟨rfl, e2⟩ | ⟨k2, i2, rfl, j0, j1, e2⟩
                · simp [Instr.sliceBounds, e1, e2, sliceBound_run _ i0 i1]
                · rw [e1] at j1
                  simp [Instr.sliceBounds, e1, e2, sliceBound_run _ i0 i1, sliceBound_run _ j0 j1]
            have hrun : ∀ w, (do pure (Next.value (← Instr.sliceAt t (.slice a' n c') lo' hi' none)) : Sem Next).run P w =
                .ok (.value (.slice (if c' = l then a' else a'.map (·.add (l * P.cellsOf e))) (hN - l) (c' - l))) w := by
              intro w
              unfold Instr.sliceAt Instr.slice
              simp only [Sem.run_bind, run_underlying hu, Result.andThen_ok, hbounds, run_sizeOf hi0, Sem.run_pure]
            split at h
            · rename_i hl0
              rw [Nat.beq_eq] at hl0
              subst hl0
              cases h
              refine OpR.value hH (hrun w) ?_
              have e1 : (if c' = 0 then a' else a'.map (·.add (0 * P.cellsOf e))) = a' := by
                split
                · rfl
                · cases a' <;> simp [Addr.add]
              rw [e1, Nat.sub_zero, Nat.sub_zero]
              cases a with
              | none =>
                obtain ⟨rfl, rfl, rfl, rfl⟩ := hnone rfl
                have : hN = 0 := by omega
                subst this
                exact .flat _ rfl
              | some ad =>
                obtain ⟨ad', rfl, h1, h2⟩ := hsome ad rfl
                exact .slice _ _ _ _ _ h1 hh1 hcc h2
            · rename_i hl0
              rw [Nat.beq_eq] at hl0
              split at h
              · rename_i hlc
                rw [Nat.beq_eq] at hlc
                cases h
                obtain ⟨hH', hst⟩ := hH.loose
                refine ⟨_, w, _, _, hrun w, .inl rfl, ?_, hH', hst⟩
                cases a with
                | none => obtain ⟨_, _, rfl, _⟩ := hnone rfl; omega
                | some ad =>
                  obtain ⟨ad', rfl, h1, h2⟩ := hsome ad rfl
                  have e2 : hN - l = 0 := by omega
                  rw [e2]
                  have e3 : ∃ q, (if c' = l then some ad' else (some ad').map (·.add (l * P.cellsOf e))) = some q := by split <;> exact ⟨_, rfl⟩
                  obtain ⟨q, hq⟩ := e3
                  rw [hq]
                  refine .slice _ _ _ _ _ ?_ (Nat.le_refl _) (Nat.zero_le _) ⟨by have := h2.1; omega, fun b S es hb => ?_⟩
                  · unfold AR; rw [upd_same]; trivial
                  · rw [upd_same] at hb; cases hb
              · rename_i hlc
                rw [Nat.beq_eq] at hlc
                cases a with
                | none => cases h
                | some ad =>
                  simp only at h
                  obtain ⟨ad', rfl, h1, h2⟩ := hsome ad rfl
                  cases hg : H.get ad.block with
                  | none => rw [hg] at h; cases h
                  | some B =>
                    rw [hg] at h
                    cases B with
                    | row cs e' =>
                      simp only at h
                      split at h
                      · rename_i hc
                        simp only [Bool.and_eq_true, Nat.beq_eq] at hc
                        obtain ⟨rfl, hsp⟩ := hc
                        cases h
                        refine OpR.value hH (hrun w) ?_
                        rw [if_neg (by omega)]
                        have hB := hH.blk _ _ hg
                        generalize hσ : σ ad.block = loc at hB
                        cases hB with
                        | row b S es _ _ cur g1 g2 g3 g4 g5 =>
                          have hr := h2.2 b S es hσ
                          unfold AR at h1
                          rw [hσ] at h1
                          obtain ⟨_, rfl⟩ := h1
                          simp only [Option.map_some, add0]
                          refine .slice _ _ _ _ _ ?_ (by omega) (by omega) ⟨by have := h2.1; omega, fun b' S' es' hb' => ?_⟩
                          · unfold AR; simp only [hσ]; exact ⟨trivial, trivial⟩
                          · simp only [hσ] at hb'
                            cases hb'
                            intro hes
                            have hr := hr hes
                            subst g4
                            rw [Nat.add_assoc, ← Nat.add_mul, show l + (c' - l) = c' from by omega]
                            exact hr
                      · cases h
                    | ro cs e' =>
                      simp only at h
                      split at h
                      · rename_i hsp
                        cases h
                        refine OpR.value hH (hrun w) ?_
                        rw [if_neg (by omega)]
                        have hB := hH.blk _ _ hg
                        generalize hσ : σ ad.block = loc at hB
                        cases hB with
                        | ro b S _ _ cur fr g1 g2 g3 =>
                          unfold AR at h1
                          rw [hσ] at h1
                          obtain ⟨_, rfl⟩ := h1
                          simp only [Option.map_some, add0]
                          refine .slice _ _ _ _ _ ?_ (by omega) (by omega) ⟨by have := h2.1; omega, fun b' S' es' hb' => ?_⟩
                          · unfold AR; simp only [hσ]; exact ⟨trivial, trivial⟩
                          · simp only [hσ] at hb'
                            cases hb'
                            exact fun h => absurd rfl h
                      · cases h
                    | _ => cases h
      | _ => cases h
    | _ => cases h
end
end Go.Hb
