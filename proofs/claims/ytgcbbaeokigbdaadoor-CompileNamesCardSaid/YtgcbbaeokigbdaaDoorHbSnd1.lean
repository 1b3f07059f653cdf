/- The machine's soundness: laws of control that the library lacks, results, marks, temporaries. -/
import Derived.Test.YtgcbbaeokigbdaaDoorHbDraw4
import Derived.RecoverIn
import Derived.RangeFuncLeaves
import Derived.LoopNIn
namespace Go.Hb
open Go Go.RowKit

section
variable {P : Program} {b : Frame} {a : Act} {k : List Item} {cs : List Frame} {w : World} {F : Fence} {n : Nat} {Q : Exit → Act → World → Prop}

theorem stepR_scope {c : Code} : step P (lone (b.atR a (.code (.scope c) :: k)) cs w) = .next (lone (b.atR a (.code c :: .inScope c :: k)) cs w) :=
  step_lone_go (by simp [stepG, stepG.exec, Frame.atR])
theorem stepR_inScope {c : Code} : step P (lone (b.atR a (.inScope c :: k)) cs w) = .next (lone (b.atR a k) cs w) :=
  step_lone_go (by simp [stepG, stepG.exec, Frame.atR])

/-- no jump to a label leaves it -/
def noGoto (Q : Exit → Act → World → Prop) : Exit → Act → World → Prop
  | .goto _, _, _ => False
  | e, a, w => Q e a w

theorem wpIn_scope {c : Code} (h : c.wpIn F n P (noGoto Q) a w) : (Code.scope c).wpIn F n P Q a w := by
  intro b k cs hro hb hr
  have h0 : (lone (b.atR a (.code (.scope c) :: k)) cs w).fenced P F := fenced_calm hb hr rfl
  obtain ⟨e, a₁, w₁, hq, harr⟩ := h b (.inScope c :: k) cs hro hb hr
  cases e with
  | normal => exact ⟨.normal, a₁, w₁, hq, .head h0 stepR_scope (StepsIn.trans harr (.one (fenced_calm hb hr rfl) stepR_inScope))⟩
  | exit id =>
    have hx : exitTo id (.inScope c :: k) = exitTo id k := by simp [exitTo]
    exact ⟨.exit id, a₁, w₁, hq, fun k' hk => .head h0 stepR_scope (harr.1 k' (by rw [hx]; exact hk)),
      fun hr' hk => let ⟨k₁, h1, h2⟩ := harr.2 hr' (by rw [hx]; exact hk); ⟨k₁, h1, .head h0 stepR_scope h2⟩⟩
  | goto l => exact hq.elim
  | ret => exact ⟨_, a₁, w₁, hq, .of_steps (.one h0 stepR_scope) harr⟩
  | panic ch => exact ⟨_, a₁, w₁, hq, .of_steps (.one h0 stepR_scope) harr⟩
  | outgrown => exact ⟨_, a₁, w₁, hq, .of_steps (.one h0 stepR_scope) harr⟩

/-- codes one after another, in a deferred call's frame -/
def seqS (F : Fence) (n : Nat) (P : Program) (Q : Exit → Act → List Frame → World → Prop) : List Code → Act → List Frame → World → Prop
  | [] => Q .normal
  | c :: rs => c.wpSIn F n P (Exit.thenS (seqS F n P Q rs) Q)

theorem thenS_same (Q : Exit → Act → List Frame → World → Prop) : Exit.thenS (Q .normal) Q = Q := by
  funext e a cs w; cases e <;> rfl

theorem seqS_append (Q : Exit → Act → List Frame → World → Prop) (c : Code) : ∀ rs : List Code, seqS F n P Q (rs ++ [c]) = seqS F n P (Exit.thenS (c.wpSIn F n P Q) Q) rs
  | [] => by show c.wpSIn F n P (Exit.thenS (Q .normal) Q) = _; rw [thenS_same]; rfl
  | d :: rs => by
    show d.wpSIn F n P (Exit.thenS (seqS F n P Q (rs ++ [c])) Q) = d.wpSIn F n P (Exit.thenS (seqS F n P (Exit.thenS (c.wpSIn F n P Q) Q) rs) (Exit.thenS (c.wpSIn F n P Q) Q))
    rw [seqS_append Q c rs]
    congr 1
    funext e a cs w
    cases e <;> rfl

theorem head_wpS : ∀ {c : Code} {ops : Array Oper} {rs : List Code} {Q : Exit → Act → List Frame → World → Prop} {a : Act} {cs : List Frame} {w : World}, headRegion c = some (ops, rs) →
    wpOpsSIn F n P ops (Exit.thenS (seqS F n P Q rs) Q) (List.range ops.size) a cs w → c.wpSIn F n P Q a cs w := by
  intro c
  induction c with
  | region id ops dr =>
    intro ops' rs Q a cs w h hw
    cases dr with
    | true => cases h
    | false =>
      simp only [headRegion, Option.some.injEq, Prod.mk.injEq] at h
      obtain ⟨rfl, rfl⟩ := h
      refine wpSIn_region ?_
      have : Exit.thenS (seqS F n P Q []) Q = Q := thenS_same Q
      rw [this] at hw; exact hw
  | seq x y ihx _ =>
    intro ops' rs Q a cs w h hw
    simp only [headRegion] at h
    cases hx : headRegion x with
    | none => rw [hx] at h; cases h
    | some p =>
      obtain ⟨ops1, rs1⟩ := p
      rw [hx] at h
      simp only [Option.some.injEq, Prod.mk.injEq] at h
      obtain ⟨rfl, rfl⟩ := h
      refine wpSIn_seq (ihx hx ?_)
      rw [seqS_append] at hw
      have : Exit.thenS (seqS F n P (Exit.thenS (y.wpSIn F n P Q) Q) rs1) (Exit.thenS (y.wpSIn F n P Q) Q) = Exit.thenS (seqS F n P (Exit.thenS (y.wpSIn F n P Q) Q) rs1) Q := by
        funext e a cs w; cases e <;> rfl
      rw [this]; exact hw
  | _ => intro ops' rs Q a cs w h; cases h
end

section
variable {P : Program} {N : Nat} {w0 : World} {τ : Nat → Value} {σ σ' : Nat → Loc} {H : Heap} {w w' : World}

/-- a block is changed and forgotten -/
theorem HR.drop (h : HR P N w0 τ σ H w) {i : Nat} {b S es : Nat} (hgi : H.get i ≠ none) (hi : i < H.next) (hl : σ i = .live b S es) (hb : N ≤ b)
    (hos : w'.os = w.os) (ht : w'.tape = w.tape) (ho : w'.output = w.output) (hs : w'.heap.size = w.heap.size) (hw : ∀ k, k ≠ b → w'.heap[k]? = w.heap[k]?) :
    HR P N w0 τ (upd σ i .dead) (H.put i none) w' ∧ Step σ H w (upd σ i .dead) (H.put i none) w' := by
  obtain ⟨h1, s1⟩ := h.kill i hi (by rw [hl]; simp) hgi
  have hlive : ∀ j c S' es', upd σ i .dead j = .live c S' es' → c ≠ b := fun j c S' es' hj hc => by
    by_cases hji : j = i
    · rw [hji, upd_same] at hj; cases hj
    · rw [upd_other _ _ hji] at hj; subst hc; exact hji (h.inj j i c S' es' S es hj hl)
  refine ⟨⟨h1.below.trans ⟨hos, ht, ho, by have := h.size; omega, fun k hk => hw k (by omega)⟩, by rw [hs]; exact h.size, h1.fresh, fun j C hj => ?_, h1.inj, fun j c S' es' hj => by rw [hs]; exact h1.lt j c S' es' hj⟩,
    ⟨s1.next, s1.ext, s1.new, fun k hk hn => ?_, by omega, s1.keep⟩⟩
  · exact (h1.blk j C hj).world fun c S' es' hc => hw c (hlive j c S' es' hc)
  · exact hw k fun e => hgi (hn i S es (e ▸ hl))

/-! ## Temporaries -/
theorem initTm_get : ∀ (l : List Value) (i : Nat) (t : Tr Value) (j : Nat), (initTm i l t).get j = if i ≤ j ∧ j < i + l.length then l[j - i]? else t.get j
  | [], i, t, j => by
    have : ¬ (i ≤ j ∧ j < i + ([] : List Value).length) := by simp
    rw [if_neg this]; rfl
  | v :: l, i, t, j => by
    rw [initTm, initTm_get l (i + 1) _ j]
    by_cases h1 : i + 1 ≤ j ∧ j < i + 1 + l.length
    · rw [if_pos h1, if_pos (by simp; omega)]
      obtain ⟨k, hk⟩ : ∃ k, j - i = k + 1 := ⟨j - i - 1, by omega⟩
      rw [hk, List.getElem?_cons_succ]
      congr 1; omega
    · rw [if_neg h1, Tr.get_put]
      by_cases h2 : j = i
      · subst h2; rw [if_pos rfl, if_pos (by simp)]; simp
      · rw [if_neg h2, if_neg (by simp; omega)]

theorem TmR.init {args : List Value} {args' : Array Value} (h : LR σ τ args args'.toList) (nt : Nat) : TmR σ τ (initTm 0 args .nil) (args' ++ Array.replicate (nt - args'.size) undef) := by
  intro j v hv
  rw [initTm_get] at hv
  split at hv
  · rename_i hj
    obtain ⟨v', hv', hr⟩ := h.get hv
    simp only [Nat.sub_zero, Array.getElem?_toList] at hv'
    have hlt : j < args'.size := (Array.getElem?_eq_some_iff.1 hv').1
    rw [Array.getD_eq_getD_getElem?, Array.getElem?_append_left hlt, hv']
    exact hr
  · cases hv

theorem TmR.put {tm : Tr Value} {a : Act} (h : TmR σ τ tm a.tmps) (he : Ext σ σ') {d : Option Tmp} {v v' : Value} (hd : ∀ t, d = some t → t < a.tmps.size) (hv : VR σ' τ v v') :
    TmR σ' τ (putD tm d v) (a.put d v').tmps := by
  intro t u hu
  rw [act_put_tmps]
  by_cases hdt : d = some t
  · rw [if_pos ⟨hdt, hd t hdt⟩]
    rw [(putD_get tm d v t).1 hdt] at hu
    cases hu; exact hv
  · rw [if_neg (fun h => hdt h.1)]
    rw [(putD_get tm d v t).2 hdt] at hu
    exact (h t u hu).ext he

/-- an operand, as the temporaries stand -/
theorem opnd {tm : Tr Value} {a : Act} (h : TmR σ τ tm a.tmps) (hg : GR P σ) {y : Operand} (hy : okOpnd P.globals.size y = true) : VR σ τ (ev tm y) (a.eval y) := by
  cases y with
  | tmp t =>
    show VR σ τ ((tm.get t).getD junk) (a.tmps.getD t undef)
    cases hq : tm.get t with
    | none => exact .junk _
    | some v => exact h t v hq
  | const v => exact .flat _ hy
  | global g => exact hg.ptr (by simpa [okOpnd, Nat.blt_eq] using hy)
  | func f => exact .flat _ rfl

/-! ## Results -/
def res1 (a : Array Value) : ResultVar → Sem Value
  | .tmp t => pure (a.getD t undef)
  | .cell b t => do loadVar t (← asAddr (a.getD b undef))

theorem dres1_sound (hH : HR P N w0 τ σ H w) {tm : Tr Value} {a : Array Value} (h : TmR σ τ tm a) {r : ResultVar} {v : Value} (hd : dres1 P tm H r = some v) :
    ∃ v', (res1 a r).run P w = .ok v' w ∧ VR σ τ v v' := by
  cases r with
  | tmp t =>
    simp only [dres1, Option.some.injEq] at hd
    subst hd
    refine ⟨_, rfl, ?_⟩
    cases hq : tm.get t with
    | none => exact .junk _
    | some v => exact h t v hq
  | cell b t =>
    simp only [dres1] at hd
    split at hd
    · rename_i ad hq
      have := h b _ hq
      obtain ⟨a', e1, hA⟩ := this.ptr_inv
      obtain ⟨v', hv', hr⟩ := dload_sound hH hd hA
      refine ⟨v', ?_, hr⟩
      simp [res1, e1, asAddr, Sem.run_bind, hv']
    · cases hd

theorem dresL_sound (hH : HR P N w0 τ σ H w) {tm : Tr Value} {a : Array Value} (h : TmR σ τ tm a) : ∀ {rs : List ResultVar} {vs : List Value}, dresL P tm H rs = some vs →
    ∃ vs', (rs.mapM (res1 a)).run P w = .ok vs' w ∧ LR σ τ vs vs'
  | [], vs, hd => by simp only [dresL, Option.some.injEq] at hd; subst hd; exact ⟨[], rfl, LR.nil⟩
  | r :: rs, vs, hd => by
    simp only [dresL] at hd
    split at hd
    · rename_i v vs1 h1 h2
      cases hd
      obtain ⟨v', e1, r1⟩ := dres1_sound hH h h1
      obtain ⟨vs', e2, r2⟩ := dresL_sound hH h h2
      refine ⟨v' :: vs', ?_, LR.cons r1 r2⟩
      rw [List.mapM_cons, Sem.run_bind, e1, Result.andThen_ok, Sem.run_bind, e2]
      rfl
    · cases hd

theorem dres_sound (hH : HR P N w0 τ σ H w) {fn : Func} {tm : Tr Value} {a : Array Value} (h : TmR σ τ tm a) {v : Value} (hd : dres P fn tm H = some v) :
    ∃ v', (results fn a).run P w = .ok v' w ∧ VR σ τ v v' := by
  unfold dres at hd
  cases hl : dresL P tm H fn.results.toList with
  | none => rw [hl] at hd; cases hd
  | some vs =>
    rw [hl] at hd
    obtain ⟨vs', e1, r1⟩ := dresL_sound hH h hl
    have hrun : (results fn a).run P w = (do let vs ← fn.results.toList.mapM (res1 a); pure (if h : vs.toArray.size = 1 then vs.toArray[0] else Value.tuple vs.toArray) : Sem Value).run P w := by
      have hf : (fun r : ResultVar => (match r with
        | ResultVar.tmp t => (pure (a.getD t undef) : Sem Value)
        | ResultVar.cell b t => (do loadVar t (← asAddr (a.getD b undef)) : Sem Value))) = res1 a := by
        funext r; cases r <;> rfl
      show Sem.run P (do let vs ← fn.results.mapM (fun r : ResultVar => (match r with
        | ResultVar.tmp t => (pure (a.getD t undef) : Sem Value)
        | ResultVar.cell b t => (do loadVar t (← asAddr (a.getD b undef)) : Sem Value))); pure (if h : vs.size = 1 then vs[0] else Value.tuple vs)) w = _
      rw [hf, Array.mapM_eq_mapM_toList]
      simp only [map_eq_pure_bind, bind_assoc, pure_bind]
    rw [hrun, Sem.run_bind, e1, Result.andThen_ok]
    have hl1 := r1.1
    match vs, hd, r1 with
    | [u], hd, r1 =>
      cases hd
      obtain ⟨v', r', rfl, hv, hr⟩ := r1.cons_inv
      have := hr.nil_inv
      subst this
      exact ⟨v', rfl, hv⟩
    | [], hd, r1 =>
      cases hd
      have := r1.nil_inv
      subst this
      exact ⟨_, rfl, .flat _ rfl⟩
    | u1 :: u2 :: vs, hd, r1 =>
      cases hd
      obtain ⟨v1, r', rfl, hv, hr⟩ := r1.cons_inv
      obtain ⟨v2, r'', rfl, hv2, hr2⟩ := hr.cons_inv
      refine ⟨.tuple (v1 :: v2 :: r'').toArray, ?_, RA.mk_tuple r1⟩
      simp
end
end Go.Hb
