/- The machine's soundness: calls, leaving, rounds; all of it. -/
import Derived.Test.YtgcbbaeokigbdaaDoorHbSnd5
namespace Go.Hb
open Go Go.RowKit

section
variable {P : Program} {N : Nat} {w0 : World} {τ : Nat → Value} {ok : Ok} {n : Nat}

/-- the functions that the machine enters are in order -/
structure OkFns (P : Program) (N : Nat) (w0 : World) (ok : Ok) : Prop where
  code : ∀ f fn c, ok.testBit f = true → P.funcs[f]? = some fn → fn.body = some c → okCode P.globals.size fn.ntmps c = true
  know : ∀ (τ : Nat → Value) f args args' H en H' w σ, (∀ j, (τ j).oneCell' = true) → ok.K f args H = some (en, H') → LR σ τ args args'.toList → HR P N w0 τ σ H w → GR P σ →
    Calls P f args' w fun e w' => ∃ σ', EnR σ' τ en e ∧ HR P N w0 τ σ' H' w' ∧ Step σ H w σ' H' w'

theorem SR.init {σ : Nat → Loc} {H : Heap} {w : World} {args : List Value} {args' : Array Value} (hl : LR σ τ args args'.toList) (hH : HR P N w0 τ σ H w) (hg : GR P σ) (nt : Nat) :
    SR P N w0 τ σ ⟨initTm 0 args .nil, [], H⟩ nt { tmps := args' ++ Array.replicate (nt - args'.size) undef, defers := [] } w :=
  ⟨hH, TmR.init hl nt, trivial, by simp; omega, hg⟩

theorem call_step (hτ : ∀ j, (τ j).oneCell' = true) (hOK : OkFns P N w0 ok) (A : All P N w0 τ ok n) {f args args' H en H' w σ} (h : dcall P ok (n + 1) f args H = some (en, H')) (hl : LR σ τ args args'.toList) (hH : HR P N w0 τ σ H w) (hg : GR P σ) :
    CallsIn Fence.wide 0 P f args' w fun e w' => ∃ σ', EnR σ' τ en e ∧ HR P N w0 τ σ' H' w' ∧ Step σ H w σ' H' w' := by
  unfold dcall at h
  split at h
  · rename_i r hk
    cases h
    exact callsIn_wide.2 (hOK.know τ f args args' H en H' w σ hτ hk hl hH hg)
  split at h
  case h_2 => cases h
  rename_i fn hf hb
  split at h
  case h_2 => cases h
  rename_i c hc
  refine callsIn_of_wp_marks hf hc trivial ?_
  have hcode := hOK.code f fn c hb hf hc
  cases hd : dcode P ok n ⟨f, none⟩ c ⟨initTm 0 args .nil, [], H⟩ with
  | none => rw [hd] at h; cases h
  | some p =>
    obtain ⟨ex, st⟩ := p
    rw [hd] at h
    refine A.code _ hd hcode (SR.init hl hH hg fn.ntmps) (.inl ⟨rfl, rfl⟩) ?_
    intro e a' w' σ' he hs hst
    cases ex with
    | normal =>
      cases e <;> try exact he.elim
      exact A.leave _ h hs.tm hs.ds trivial hs.hH hs.gr fun e2 w2 σ2 he2 hH2 hst2 => ⟨σ2, he2, hH2, hst.trans hst2⟩
    | ret =>
      cases e <;> try exact he.elim
      exact A.leave _ h hs.tm hs.ds trivial hs.hH hs.gr fun e2 w2 σ2 he2 hH2 hst2 => ⟨σ2, he2, hH2, hst.trans hst2⟩
    | panic ch =>
      cases e <;> try exact he.elim
      exact A.leave (u := .panicking _) _ h hs.tm hs.ds he hs.hH hs.gr fun e2 w2 σ2 he2 hH2 hst2 => ⟨σ2, he2, hH2, hst.trans hst2⟩
    | exit i => cases h

theorem seqS_of_seqW {F : Fence} (hro : F.round = none) (Q : Exit → Act → List Frame → World → Prop) (cs : List Frame) : ∀ (rs : List Code) (a : Act) (w : World), seqW F P (fun e a w => Q e a cs w) rs a w → seqS F 0 P Q rs a cs w
  | [], a, w, h => h
  | c :: rs, a, w, h => by
    refine wpSIn_of_wpIn hro (wpIn_mono h fun e a' w' he => ?_)
    cases e with
    | normal => exact seqS_of_seqW hro Q cs rs a' w' he
    | _ => exact he

/-- the plain operations of a deferred call's first region -/
theorem plain_sound (hτ : ∀ j, (τ j).oneCell' = true) {F : Fence} (hF : ∀ f, F.fn f) {ops : Array Oper} {m : Nat} (hok : ops.toList.all (okOper P.globals.size m) = true) (Q : Exit → Act → List Frame → World → Prop) (cs : List Frame) :
    ∀ (l : List Nat) (tm : Tr Value) (H : Heap) (r : Tr Value × Heap) (a : Act) (w : World) (σ : Nat → Loc), dplain P ops l tm H = some r → HR P N w0 τ σ H w → TmR σ τ tm a.tmps → m ≤ a.tmps.size → GR P σ →
    (∀ a' w' σ', HR P N w0 τ σ' r.2 w' → TmR σ' τ r.1 a'.tmps → a'.defers = a.defers → m ≤ a'.tmps.size → Step σ H w σ' r.2 w' → Q .normal a' cs w') → wpOpsSIn F 0 P ops Q l a cs w
  | [], tm, H, r, a, w, σ, h, hH, ht, hm, hg, hQ => by
    unfold dplain at h
    cases h
    exact hQ a w σ hH ht rfl hm (Step.refl _ _ _)
  | i :: l, tm, H, r, a, w, σ, h, hH, ht, hm, hg, hQ => by
    unfold dplain at h
    unfold wpOpsSIn
    cases ho : ops[i]? with
    | none => rw [ho] at h; cases h
    | some o =>
      rw [ho] at h
      simp only at h ⊢
      have hmem : o ∈ ops.toList := by
        obtain ⟨h1, h2⟩ := Array.getElem?_eq_some_iff.1 ho
        rw [← h2]; exact Array.getElem_mem_toList h1
      have hoko := List.all_eq_true.1 hok o hmem
      unfold okOper at hoko
      rw [Bool.and_eq_true] at hoko
      have hdm : ∀ d, o.dst = some d → d < m := fun d hd => by have := hoko.1; rw [hd] at this; simpa [Nat.blt_eq] using this
      split at h
      case h_2 => cases h
      rename_i v H1 hgd hd
      have hw : Region.wanted o (yielded ops a.tmps) = true := by unfold Region.wanted; rw [hgd]
      refine ⟨fun f _ => hF f, ?_⟩
      rw [hw]
      simp only [if_true]
      obtain ⟨nx, w', σ', v', hrun, hnx, hv, hH', hst⟩ := dop_sound hH hτ (fun y hy => opnd ht hg (List.all_eq_true.1 hoko.2 y hy)) hd
      have next : wpOpsSIn F 0 P ops Q l (a.put o.dst v') cs w' := by
        refine plain_sound hτ hF hok Q cs l (putD tm o.dst v) H1 r _ w' σ' h hH' (TmR.put ht hst.ext (fun t hd => Nat.lt_of_lt_of_le (hdm t hd) hm) hv) (by rw [act_put_size]; exact hm) (hg.ext hst.ext) ?_
        intro a' w2 σ2 k1 k2 k3 k4 k5
        exact hQ a' w2 σ2 k1 k2 (by rw [k3, act_put_defers]) k4 (hst.trans k5)
      rw [hrun]
      rcases hnx with rfl | ⟨rfl, rfl⟩
      · exact next
      · exact next

theorem isRecover_run {o : Oper} (h : isRecover o = true) (ρ : Operand → Value) (w : World) : o.guard = none ∧ (execOp ρ o).run P w = .ok .recover w := by
  unfold isRecover at h
  split at h
  case h_2 => cases h
  rename_i c hg ho
  split at h
  case h_2 => cases h
  rename_i hc ha
  refine ⟨hg, ?_⟩
  have hd : dop P o ρ ⟨0, .nil⟩ = some .recov := by
    unfold dop; rw [ho]; simp only [hc, ha]
  unfold execOp
  rw [ho]
  obtain ⟨callee, args, ats⟩ := c
  simp only at hc ha
  subst hc
  simp only [resolve]
  rfl

theorem recov_ops {F : Fence} {k : Nat} (hF : ∀ f, F.fn f) {ops : Array Oper} {i : Nat} {o : Oper} (ho : ops[i]? = some o) (hrec : isRecover o = true) {Q : Exit → Act → List Frame → World → Prop} {rest : List Nat} {a : Act} {cs cs1 : List Frame} {w : World} {v' : Value}
    (hrv : (match recoverD cs with | some (v, cs') => (v, cs') | none => (.nilIface, cs)) = (v', cs1)) (h : wpOpsSIn F k P ops Q rest (a.put o.dst v') cs1 w) : wpOpsSIn F k P ops Q (i :: rest) a cs w := by
  unfold wpOpsSIn
  rw [ho]
  simp only
  refine ⟨fun _ _ => hF _, ?_⟩
  have hir := isRecover_run (P := P) hrec
  have hw : Region.wanted o (yielded ops a.tmps) = true := by unfold Region.wanted; rw [(hir a.eval w).1]
  rw [hw]
  simp only [if_true]
  rw [(hir _ w).2]
  cases hrd : recoverD cs with
  | none =>
    rw [hrd] at hrv
    simp only [Prod.mk.injEq] at hrv
    simp only
    rw [hrv.1, hrv.2]
    exact h
  | some p =>
    obtain ⟨v2, cs2⟩ := p
    rw [hrd] at hrv
    simp only [Prod.mk.injEq] at hrv
    simp only
    rw [hrv.1, hrv.2]
    exact h

theorem okHead : ∀ {c : Code} {ops : Array Oper} {rs : List Code} {g m : Nat}, headRegion c = some (ops, rs) → okCode g m c = true → ops.toList.all (okOper g m) = true ∧ ∀ d ∈ rs, okCode g m d = true := by
  intro c
  induction c with
  | region id ops dr =>
    intro ops' rs g m h hok
    cases dr with
    | true => cases h
    | false =>
      simp only [headRegion, Option.some.injEq, Prod.mk.injEq] at h
      obtain ⟨rfl, rfl⟩ := h
      unfold okCode at hok
      rw [Bool.and_eq_true] at hok
      exact ⟨hok.1, fun d hd => (by cases hd)⟩
  | seq x y ihx _ =>
    intro ops' rs g m h hok
    simp only [headRegion] at h
    unfold okCode at hok
    rw [Bool.and_eq_true] at hok
    cases hx : headRegion x with
    | none => rw [hx] at h; cases h
    | some p =>
      obtain ⟨ops1, rs1⟩ := p
      rw [hx] at h
      simp only [Option.some.injEq, Prod.mk.injEq] at h
      obtain ⟨rfl, rfl⟩ := h
      obtain ⟨k1, k2⟩ := ihx hx hok.1
      refine ⟨k1, fun d hd => ?_⟩
      rcases List.mem_append.1 hd with hd | hd
      · exact k2 d hd
      · simp at hd; rw [hd]; exact hok.2
  | _ => intro ops' rs g m h; cases h

theorem DsR.nil_inv {σ : Nat → Loc} {ds : List Deferred} (h : DsR σ τ [] ds) : ds = [] := by
  cases ds with
  | nil => rfl
  | cons _ _ => exact h.elim

theorem leave_step (hτ : ∀ j, (τ j).oneCell' = true) (hOK : OkFns P N w0 ok) (A : All P N w0 τ ok n) {fn tm ds md H en H' tmps ds' u w σ} (R : Ending → World → Prop) (h : dleave P ok (n + 1) fn tm ds md H = some (en, H')) (ht : TmR σ τ tm tmps)
    (hd : DsR σ τ ds ds') (hu : MdR σ τ md u) (hH : HR P N w0 τ σ H w) (hg : GR P σ) (hR : ∀ e w' σ', EnR σ' τ en e → HR P N w0 τ σ' H' w' → Step σ H w σ' H' w' → R e w') : LeavesInM Fence.wide 0 P fn tmps R ds' u w := by
  cases ds with
  | nil =>
    have := hd.nil_inv
    subst this
    unfold dleave at h
    cases md with
    | none =>
      cases u with
      | returning =>
        simp only at h
        cases hr : dres P fn tm H with
        | none => rw [hr] at h; cases h
        | some v =>
          rw [hr] at h
          cases h
          obtain ⟨v', hrun, hv⟩ := dres_sound hH ht hr
          exact ⟨v', hrun, hR _ w σ hv hH (Step.refl _ _ _)⟩
      | run => exact hu.elim
      | panicking _ => exact hu.elim
    | some ch =>
      cases u with
      | panicking ch' => cases h; exact hR _ w σ hu hH (Step.refl _ _ _)
      | run => exact hu.elim
      | returning => exact hu.elim
  | cons d ds =>
    cases ds' with
    | nil => exact hd.elim
    | cons d' ds' =>
      obtain ⟨⟨hargs, htgt⟩, hds⟩ := hd
      unfold dleave at h
      unfold LeavesInM
      refine ⟨hu.ne_run, ?_⟩
      rcases htgt with ⟨g, cap, cap', e1, e2, hcap⟩ | ⟨l, l', e1, e2, hbr⟩
      · -- a deferred function
        rw [e1] at h
        simp only at h
        split at h
        case h_2 => cases h
        rename_i gn hgn hokg
        rw [Bool.and_eq_true] at hokg
        obtain ⟨hokg, hd1⟩ := hokg
        obtain ⟨d1, hd1⟩ := Option.isSome_iff_exists.1 hd1
        obtain ⟨_, hcallf⟩ := dcall1_sound hd1
        split at h
        case h_2 => cases h
        rename_i c hc
        split at h
        case h_2 => cases h
        rename_i ops rest hhead
        split at h
        case h_2 => cases h
        rename_i o ho
        split at h
        case isFalse => cases h
        rename_i hrec
        split at h
        case h_2 => cases h
        rename_i tm1 H1 hpl
        refine .inr ⟨fun hh => (by cases hh), .func g, cap', g, d'.args ++ cap', e2, by rw [e2]; simp only [invoke]; exact hcallf _ _, fun _ _ => trivial, ?_⟩
        obtain ⟨hok1, hok2⟩ := okHead hhead (hOK.code g gn c hokg hgn hc)
        refine callsDIn_of_wpSIn hgn hc trivial fun c₀ cs hmode => ?_
        refine head_wpS hhead ?_
        -- recover
        have hsz : 0 < ops.size := (Array.getElem?_eq_some_iff.1 ho).1
        have hrange : List.range ops.size = 0 :: (List.range ops.size).drop 1 := by
          obtain ⟨k, hk⟩ : ∃ k, ops.size = k + 1 := ⟨ops.size - 1, by omega⟩
          rw [hk, List.range_succ_eq_map]; rfl
        rw [hrange]
        obtain ⟨v', u', hrv, hvr, hmd⟩ := recov_sound (cs := cs) (c₀ := c₀) (by rw [hmode]; exact hu)
        have hmem : o ∈ ops.toList := by
          obtain ⟨h1, h2⟩ := Array.getElem?_eq_some_iff.1 ho
          rw [← h2]; exact Array.getElem_mem_toList h1
        have hoko := List.all_eq_true.1 hok1 o hmem
        unfold okOper at hoko
        rw [Bool.and_eq_true] at hoko
        have hdm : ∀ t, o.dst = some t → t < gn.ntmps := fun t hd => by have := hoko.1; rw [hd] at this; simpa [Nat.blt_eq] using this
        have hl : LR σ τ (d.args.toList ++ cap.toList) (d'.args ++ cap').toList := by rw [Array.toList_append]; exact LR.append hargs hcap
        have hs0 := SR.init (P := P) hl hH hg gn.ntmps
        have hst0 : (St.put ⟨initTm 0 (d.args.toList ++ cap.toList) .nil, [], H⟩ o.dst (drecov md).1 H).tm = putD (initTm 0 (d.args.toList ++ cap.toList) .nil) o.dst (drecov md).1 := by cases o.dst <;> rfl
        rw [hst0] at hpl
        have main : wpOpsSIn Fence.wide 0 P ops (Exit.thenS (seqS Fence.wide 0 P (bodyPostS P gn c₀ cs (fun
            | .returned _, u', w' => LeavesInM Fence.wide 0 P fn tmps R ds' (settle u') w'
            | .panicked chain, u', w' => LeavesInM Fence.wide 0 P fn tmps R ds' (raised u' chain) w'
            | .outgrown, _, w' => R .outgrown w')) rest) (bodyPostS P gn c₀ cs (fun
            | .returned _, u', w' => LeavesInM Fence.wide 0 P fn tmps R ds' (settle u') w'
            | .panicked chain, u', w' => LeavesInM Fence.wide 0 P fn tmps R ds' (raised u' chain) w'
            | .outgrown, _, w' => R .outgrown w'))) ((List.range ops.size).drop 1)
            ((({ tmps := (d'.args ++ cap') ++ Array.replicate (gn.ntmps - (d'.args ++ cap').size) undef, defers := [] } : Act)).put o.dst v') ({ c₀ with mode := u' } :: cs) w := by
          refine plain_sound hτ (fun _ => trivial) hok1 _ _ _ _ H (tm1, H1) _ w σ hpl hH (TmR.put hs0.tm (Ext.refl σ) (fun t hd => Nat.lt_of_lt_of_le (hdm t hd) hs0.sz) hvr) (by rw [act_put_size]; exact hs0.sz) hg ?_
          intro a1 w1 σ1 hH1 ht1 hdf1 hsz1 hst1
          rw [act_put_defers] at hdf1
          show seqS Fence.wide 0 P _ rest a1 _ w1
          refine seqS_of_seqW rfl _ _ rest a1 w1 ?_
          cases hsq : dseq P ok n ⟨g, none⟩ rest ⟨tm1, [], H1⟩ with
          | none => rw [hsq] at h; cases h
          | some p =>
            obtain ⟨ex, st2⟩ := p
            rw [hsq] at h
            refine A.seq _ hsq hok2 ⟨hH1, ht1, by rw [hdf1]; trivial, hsz1, hg.ext hst1.ext⟩ (.inl ⟨rfl, rfl⟩) ?_
            intro e a2 w2 σ2 he hs2 hst2
            have hstA := hst1.trans hst2
            have fin : ∀ (hx : (if st2.ds.isEmpty && gn.results.isEmpty then dleave P ok n fn tm ds (dsettle (drecov md).2) st2.H else none) = some (en, H')),
                a2.defers = [] ∧ ∃ u2, ({ c₀ with mode := u' } :: cs : List Frame) = { c₀ with mode := u2 } :: cs ∧ ∃ v, (results gn a2.tmps).run P w2 = .ok v w2 ∧ LeavesInM Fence.wide 0 P fn tmps R ds' (settle u2) w2 := by
              intro hx
              split at hx
              case isFalse => cases hx
              rename_i hemp
              rw [Bool.and_eq_true] at hemp
              have hds2 : st2.ds = [] := by simpa using hemp.1
              have hrs : gn.results = #[] := by simpa using hemp.2
              have hdf2 : a2.defers = [] := by have := hs2.ds; rw [hds2] at this; exact this.nil_inv
              refine ⟨hdf2, u', rfl, .tuple #[], by simp [results, hrs], ?_⟩
              exact A.leave R hx (ht.ext hstA.ext) (hds.ext hstA.ext) ((hmd.ext hstA.ext).settle) hs2.hH hs2.gr fun e3 w3 σ3 he3 hH3 hst3 => hR e3 w3 σ3 he3 hH3 (hstA.trans hst3)
            cases ex with
            | normal =>
              cases e <;> try exact he.elim
              obtain ⟨q1, u2, q2, v, q3, q4⟩ := fin h
              exact ⟨q1, u2, q2, v, q3, q4⟩
            | ret =>
              cases e <;> try exact he.elim
              obtain ⟨q1, u2, q2, v, q3, q4⟩ := fin h
              exact ⟨q1, u2, q2, v, q3, q4⟩
            | exit i => cases h
            | panic ch => cases h
        exact recov_ops (fun _ => trivial) ho hrec hrv main
      · -- a mark
        rw [e1] at h
        simp only at h
        split at h
        case h_2 => cases h
        rename_i hgl
        have hB := hH.blk l _ hgl
        have hlt := hH.get_lt hgl
        generalize hσ : σ l = loc at hB
        cases hB with
        | dfr b S es q1 q2 =>
          have hlb := hbr.at' hσ
          subst hlb
          obtain ⟨hH2, hst2⟩ := hH.drop (w' := { w with heap := w.heap.setIfInBounds l' (.deferred none) }) (by rw [hgl]; simp) hlt hσ q1 rfl rfl rfl (by simp) (fun k hk => set_at _ hk)
          refine .inl ⟨l', _, e2, ?_, A.leave R h (ht.ext hst2.ext) (hds.ext hst2.ext) (hu.ext hst2.ext) hH2 (hg.ext hst2.ext) fun e3 w3 σ3 he3 hH3 hst3 => hR e3 w3 σ3 he3 hH3 (hst2.trans hst3)⟩
          have hgo : (getObj l').run P w = .ok (.deferred (some [])) w := by simp [getObj, Sem.run, q2]
          simp [Instr.takeDeferred, Sem.run_bind, hgo, run_setDfr q2]
end
end Go.Hb
