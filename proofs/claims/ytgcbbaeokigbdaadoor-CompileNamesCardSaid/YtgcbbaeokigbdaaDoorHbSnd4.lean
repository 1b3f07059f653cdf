/- The machine's soundness: one operation, a list of operations, calls. -/
import Derived.Test.YtgcbbaeokigbdaaDoorHbSnd3
namespace Go.Hb
open Go Go.RowKit

section
variable {P : Program} {N : Nat} {w0 : World} {τ : Nat → Value} {ok : Ok} {n : Nat}

theorem FRel.fn {x : Ctx} {F : Fence} (h : FRel x F) : ∀ f, F.fn f := by
  intro f
  rcases h with ⟨_, rfl⟩ | ⟨_, l, rfl⟩ <;> trivial
theorem FRel.depth {x : Ctx} {F : Fence} (h : FRel x F) : F.depth.isSome = true → 1 ≤ 0 := by
  intro hd
  rcases h with ⟨_, rfl⟩ | ⟨_, l, rfl⟩ <;> cases hd
theorem FRel.calls {x : Ctx} {F : Fence} (h : FRel x F) {f : FuncId} {args : Array Value} {w : World} {R : Ending → World → Prop} (hc : CallsIn Fence.wide 0 P f args w R) : CallsIn F 0 P f args w R := by
  rcases h with ⟨_, rfl⟩ | ⟨_, l, rfl⟩
  · exact hc
  · exact hc
theorem FRel.any {x : Ctx} {F : Fence} (h : FRel x F) : F = Fence.wide ∨ ∃ l2, F = Fence.wide.inRound l2 := by
  rcases h with ⟨_, h⟩ | ⟨_, h⟩
  · exact .inl h
  · exact .inr h

theorem dop_defer {o : Oper} {ρ : Operand → Value} {H : Heap} {r : Dr} {c : Call} (ho : o.op = .defer c) (h : dop P o ρ H = some r) : ∃ d, r = .dfr d := by
  unfold dop at h
  rw [ho] at h
  simp only at h
  split at h
  · split at h
    · cases h; exact ⟨_, rfl⟩
    · cases h
  · cases h

theorem op1_step (hτ : ∀ j, (τ j).oneCell' = true) (A : All P N w0 τ ok n) {x o ρ ds H r a w σ F} (K : Act → World → Prop) (Q : Exit → Act → World → Prop) (h : dop1 P ok (n + 1) x o ρ ds H = some r)
    (hρ : ∀ y ∈ o.op.operands.toList, VR σ τ (ρ y) (a.eval y)) (hH : HR P N w0 τ σ H w) (hds : DsR σ τ ds a.defers) (hg : GR P σ) (hF : FRel x F)
    (hK : match (generalizing := false) r with
     | .val v ds1 H1 => ∀ σ' v' w' dfs', VR σ' τ v v' → HR P N w0 τ σ' H1 w' → DsR σ' τ ds1 dfs' → Step σ H w σ' H1 w' → K (({ a with defers := dfs' } : Act).put o.dst v') w'
     | .panic ch H1 => ∀ σ' ch' w', ChR σ' τ ch ch' → HR P N w0 τ σ' H1 w' → Step σ H w σ' H1 w' → Q (.panic ch') a w') : o.wpIn F 0 P a w K Q := by
  unfold dop1 at h
  have hnd : ∀ dr, dop P o ρ H = some dr → (∀ d, dr ≠ .dfr d) → ∀ c, o.op ≠ .defer c := fun dr hd hne c hc => by
    obtain ⟨d, hd'⟩ := dop_defer hc hd
    exact hne d hd'
  split at h
  · -- a value
    rename_i v H' hd
    cases h
    obtain ⟨nx, w', σ', v', hrun, hnx, hv, hH', hst⟩ := dop_sound hH hτ hρ hd
    exact wpIn_of_run hF.fn (hnd _ hd (by simp)) hrun hnx (hK σ' v' w' a.defers hv hH' (hds.ext hst.ext) hst)
  · -- a call
    rename_i f args hd
    obtain ⟨args', hrun, hl⟩ := dop_sound hH hτ hρ hd
    refine ⟨fun f _ => hF.fn f, ?_⟩
    rw [Oper.semAt_eq _ _ _ (hnd _ hd (by simp)), hrun, Oper.uponIn_enter]
    refine ⟨hF.depth, ?_⟩
    cases hc : dcall P ok n f args H with
    | none => rw [hc] at h; cases h
    | some p =>
      obtain ⟨en, H'⟩ := p
      rw [hc] at h
      refine hF.calls (CallsIn.mono (A.call hc hl hH hg) fun e w' he => ?_)
      obtain ⟨σ', hen, hH', hst⟩ := he
      cases en with
      | ret v =>
        cases h
        cases e with
        | returned v' => exact hK σ' v' w' a.defers hen hH' (hds.ext hst.ext) hst
        | panicked _ => exact hen.elim
        | outgrown => exact hen.elim
      | panic ch =>
        cases h
        cases e with
        | returned v' => exact hen.elim
        | panicked ch' => exact hK σ' ch' w' hen hH' hst
        | outgrown => exact hen.elim
  · -- a round
    rename_i l args hd
    obtain ⟨l', args', hrun, hbr, hl⟩ := dop_sound hH hτ hρ hd
    cases hc : dround P ok n l args H with
    | none => rw [hc] at h; cases h
    | some p =>
      obtain ⟨v, H'⟩ := p
      rw [hc] at h
      cases h
      obtain ⟨f, tmps, as, bo, hy, hr⟩ := A.round hc hbr hl hH hg
      refine ⟨fun f _ => hF.fn f, ?_⟩
      rw [Oper.semAt_eq _ _ _ (hnd _ hd (by simp)), hrun, hy, Oper.uponIn_round]
      refine ⟨hF.depth, RoundIn.mono (hr F hF.any) fun e w' he => ?_⟩
      obtain ⟨v', σ', rfl, hv, hH', hst⟩ := he
      exact hK σ' v' w' a.defers hv hH' (hds.ext hst.ext) hst
  · -- a deferred call
    rename_i d hd
    obtain ⟨d', hrun, hdr⟩ := dop_sound hH hτ hρ hd
    cases hx : x.round with
    | some _ => rw [hx] at h; cases h
    | none =>
      rw [hx] at h
      cases h
      refine ⟨fun f _ => hF.fn f, ?_⟩
      have hFw : F = Fence.wide := by
        rcases hF with ⟨_, h⟩ | ⟨h, _⟩
        · exact h
        · exact absurd hx h
      subst hFw
      show o.uponIn Fence.wide 0 P a K Q ((execOp a.eval o).run P w)
      rw [hrun, Oper.uponIn_defer]
      exact hK σ undef w (d' :: a.defers) (.flat _ rfl) hH ⟨hdr, hds⟩ (Step.refl _ _ _)
  · -- a panic
    rename_i v hd
    cases h
    obtain ⟨v', hrun, hv⟩ := dop_sound hH hτ hρ hd
    refine ⟨fun f _ => hF.fn f, ?_⟩
    rw [Oper.semAt_eq _ _ _ (hnd _ hd (by simp)), hrun, Oper.uponIn_panic]
    exact hK σ _ w ⟨hv, rfl, rfl, trivial⟩ hH (Step.refl _ _ _)
  · cases h

theorem ops_step (A : All P N w0 τ ok n) {x ops l st ex st' m a w σ F} (Q : Exit → Act → World → Prop) (h : dops P ok (n + 1) x ops l st = some (ex, st')) (hok : ops.toList.all (okOper P.globals.size m) = true) (hs : SR P N w0 τ σ st m a w)
    (hF : FRel x F) (hQ : Cont P N w0 τ σ st.H w ex st' m Q) : wpOpsIn F 0 P ops Q l a w := by
  cases l with
  | nil =>
    unfold dops at h
    cases h
    exact hQ .normal a w σ trivial hs (Step.refl _ _ _)
  | cons i rest =>
    unfold dops at h
    unfold wpOpsIn
    cases ho : ops[i]? with
    | none => rw [ho] at h; cases h
    | some o =>
      rw [ho] at h
      simp only at h ⊢
      have hmem : o ∈ ops.toList := by
        obtain ⟨h1, h2⟩ := Array.getElem?_eq_some_iff.1 ho
        rw [← h2]; exact Array.getElem_mem_toList h1
      have hoko := List.all_eq_true.1 hok o hmem
      unfold okOper at hoko
      rw [Bool.and_eq_true] at hoko
      have hdm : ∀ d, o.dst = some d → d < m := fun d hd => by have := hoko.1; rw [hd] at this; simpa [Nat.blt_eq] using this
      have hput : ∀ {σ' : Nat → Loc} {v v' : Value} {ds : List Deferred} {dfs : List Deferred} {H' : Heap} {w' : World}, Ext σ σ' → VR σ' τ v v' → HR P N w0 τ σ' H' w' → DsR σ' τ ds dfs →
          SR P N w0 τ σ' (St.put ⟨st.tm, ds, st.H⟩ o.dst v H') m (({ a with defers := dfs } : Act).put o.dst v') w' := by
        intro σ' v v' ds dfs H' w' he hv hH' hd
        have htm := TmR.put (a := { a with defers := dfs }) hs.tm he (d := o.dst) (fun t ht => Nat.lt_of_lt_of_le (hdm t ht) hs.sz) hv
        have hst : St.put ⟨st.tm, ds, st.H⟩ o.dst v H' = ⟨putD st.tm o.dst v, ds, H'⟩ := by cases o.dst <;> rfl
        rw [hst]
        exact ⟨hH', htm, by rw [act_put_defers]; exact hd, by rw [act_put_size]; exact hs.sz, hs.gr.ext he⟩
      cases hw : dwanted ops st.tm o with
      | none => rw [hw] at h; cases h
      | some bb =>
        rw [hw] at h
        have hwant := wanted_of (σ := σ) (τ := τ) (a := a.tmps) (fun j want oj d v _ _ _ hv => hs.tm d v hv) hw
        rw [hwant]
        cases bb with
        | false =>
          simp only [Bool.false_eq_true, if_false] at h ⊢
          refine ⟨fun f _ => hF.fn f, A.ops Q h hok (hput (Ext.refl σ) (.flat _ rfl) hs.hH hs.ds) hF ?_⟩
          intro e a' w' σ' he hs' hst
          refine hQ e a' w' σ' he hs' ?_
          have : (st.put o.dst undef st.H).H = st.H := by cases o.dst <;> rfl
          rw [this] at hst; exact hst
        | true =>
          simp only [if_true] at h ⊢
          cases h1 : dop1 P ok n x o (ev st.tm) st.ds st.H with
          | none => rw [h1] at h; cases h
          | some r =>
            rw [h1] at h
            refine A.op1 _ Q h1 (fun y hy => opnd hs.tm hs.gr (List.all_eq_true.1 hoko.2 y hy)) hs.hH hs.ds hs.gr hF ?_
            cases r with
            | val v ds1 H1 =>
              intro σ' v' w' dfs' hv hH' hd' hst
              refine A.ops Q h hok (hput hst.ext hv hH' hd') hF ?_
              intro e a' w'' σ'' he hs' hst'
              refine hQ e a' w'' σ'' he hs' ?_
              have : (St.put ⟨st.tm, ds1, st.H⟩ o.dst v H1).H = H1 := by cases o.dst <;> rfl
              rw [this] at hst'
              exact hst.trans hst'
            | panic ch H1 =>
              intro σ' ch' w' hch hH' hst
              cases h
              exact hQ (.panic ch') a w' σ' hch ⟨hH', fun t v hv => (hs.tm t v hv).ext hst.ext, hs.ds.ext hst.ext, hs.sz, hs.gr.ext hst.ext⟩ hst

theorem seq_step (A : All P N w0 τ ok n) {x rs st ex st' m a w σ F} (Q : Exit → Act → World → Prop) (h : dseq P ok (n + 1) x rs st = some (ex, st')) (hok : ∀ c ∈ rs, okCode P.globals.size m c = true) (hs : SR P N w0 τ σ st m a w)
    (hF : FRel x F) (hQ : Cont P N w0 τ σ st.H w ex st' m Q) : seqW F P Q rs a w := by
  cases rs with
  | nil => unfold dseq at h; cases h; exact hQ .normal a w σ trivial hs (Step.refl _ _ _)
  | cons c rs =>
    unfold dseq at h
    cases hc : dcode P ok n x c st with
    | none => rw [hc] at h; cases h
    | some p =>
      obtain ⟨ex1, st1⟩ := p
      rw [hc] at h
      refine A.code _ hc (hok c (by simp)) hs hF ?_
      intro e a' w' σ' he hs' hst
      cases ex1 with
      | normal =>
        cases e <;> try exact he.elim
        exact A.seq Q h (fun d hd => hok d (List.mem_cons_of_mem _ hd)) hs' hF fun e2 a2 w2 σ2 he2 hs2 hst2 => hQ e2 a2 w2 σ2 he2 hs2 (hst.trans hst2)
      | exit i => cases h; cases e <;> try exact he.elim
                  exact hQ _ a' w' σ' he hs' hst
      | ret => cases h; cases e <;> try exact he.elim
               exact hQ _ a' w' σ' he hs' hst
      | panic ch => cases h; cases e <;> try exact he.elim
                    exact hQ _ a' w' σ' he hs' hst

theorem loop_step (A : All P N w0 τ ok n) {x c st ex st' m a w σ F} (Q : Exit → Act → World → Prop) (h : dcode P ok (n + 1) x (.loop c) st = some (ex, st')) (hok : okCode P.globals.size m c = true) (hs : SR P N w0 τ σ st m a w)
    (hF : FRel x F) (hQ : Cont P N w0 τ σ st.H w ex st' m Q) : Code.roundsIn F 0 P c Q (n + 1) a w := by
  unfold dcode at h
  simp only at h
  rw [roundsIn_succ]
  cases hc : dcode P ok n x c st with
  | none => rw [hc] at h; cases h
  | some p =>
    obtain ⟨ex1, st1⟩ := p
    rw [hc] at h
    refine A.code _ hc hok hs hF ?_
    intro e a' w' σ' he hs' hst
    cases ex1 with
    | normal =>
      cases e <;> try exact he.elim
      exact A.loop Q h hok hs' hF fun e2 a2 w2 σ2 he2 hs2 hst2 => hQ e2 a2 w2 σ2 he2 hs2 (hst.trans hst2)
    | exit i => cases h; cases e <;> try exact he.elim
                exact hQ _ a' w' σ' he hs' hst
    | ret => cases h; cases e <;> try exact he.elim
             exact hQ _ a' w' σ' he hs' hst
    | panic ch => cases h; cases e <;> try exact he.elim
                  exact hQ _ a' w' σ' he hs' hst
end
end Go.Hb
