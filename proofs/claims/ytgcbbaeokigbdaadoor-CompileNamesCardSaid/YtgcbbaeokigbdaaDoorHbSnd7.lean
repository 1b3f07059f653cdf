/- The machine's soundness: rounds; all of it; a function's contract. -/
import Derived.Test.YtgcbbaeokigbdaaDoorHbSnd6
namespace Go.Hb
open Go Go.RowKit

section
variable {P : Program} {N : Nat} {w0 : World} {τ : Nat → Value} {ok : Ok} {n : Nat}

theorem run_beginRound {w : World} {b : Nat} {L : Loop} (h : w.heap[b]? = some (.loop L)) (hr : L.state = .ready) :
    (Instr.beginRound b).run P w = .ok () { w with heap := w.heap.setIfInBounds b (.loop { L with state := .busy }) } := by
  simp [Instr.beginRound, Sem.run_bind, run_getLoop h, run_setLoop h, hr]

theorem run_endRound {w : World} {b : Nat} {L : Loop} (h : w.heap[b]? = some (.loop L)) (jump : Option Code) :
    (Instr.endRound b jump).run P w = .ok (.bool jump.isNone) { w with heap := w.heap.setIfInBounds b (.loop { L with state := if jump.isNone then .ready else .done, pending := jump }) } := by
  simp [Instr.endRound, Sem.run_bind, run_getLoop h, run_setLoop h]

theorem run_yield {w : World} {b : Nat} {L : Loop} {args : Array Value} (h : w.heap[b]? = some (.loop L)) (hs : args.size = L.params.size) :
    (Instr.yield b args).run P w = .ok (.round b L.fn ((L.params.zip args).foldl (fun tmps (t, a) => tmps.setIfInBounds t a) L.tmps) L.assign L.body) w := by
  simp [Instr.yield, Sem.run_bind, run_getLoop h, hs]

theorem round_step (A : All P N w0 τ ok n) {l l' args args' H v H' w σ} (h : dround P ok (n + 1) l args H = some (v, H')) (hbr : BR σ l l') (hl : LR σ τ args args'.toList) (hH : HR P N w0 τ σ H w) (hg : GR P σ) :
    ∃ f tmps as bo, (Instr.yield l' args').run P w = .ok (.round l' f tmps as bo) w ∧
      ∀ (F : Fence), (F = Fence.wide ∨ ∃ l2, F = Fence.wide.inRound l2) → RoundIn F 0 P l' f tmps as bo w fun e w' => ∃ v' σ', e = .returned v' ∧ VR σ' τ v v' ∧ HR P N w0 τ σ' H' w' ∧ Step σ H w σ' H' w' := by
  unfold dround at h
  split at h
  case h_2 => cases h
  rename_i pend fn tm ps as bo dd hgl
  obtain ⟨b, S, es, m, L, q1, q2, q3, q4, q5, q6, q7, q8, q9, q10, q11, q12, q13, q14⟩ := hH.loopAt hgl
  have hlb := hbr.at' q1
  subst hlb
  split at h
  case isFalse => cases h
  rename_i hlen
  rw [Nat.beq_eq] at hlen
  have hsz : args'.size = L.params.size := by
    have h1 := hl.1
    have h2 : L.params.toList.length = ps.length := by rw [q6]
    simp at h1 h2
    omega
  obtain ⟨hz1, hz2⟩ := zip_rel hl q9 q10 q13
  have hfold : (L.params.zip args').foldl (fun tmps (t, a) => tmps.setIfInBounds t a) L.tmps = (ps.zip args'.toList).foldl (fun tmps p => tmps.setIfInBounds p.1 p.2) L.tmps := by
    rw [← q6, ← Array.foldl_toList, Array.toList_zip]
  refine ⟨L.fn, _, L.assign, L.body, run_yield q3 hsz, fun F hF => ?_⟩
  rw [hfold]
  have hFn : ∀ f, F.fn f := by rcases hF with rfl | ⟨l2, rfl⟩ <;> exact fun _ => trivial
  have hFr : ∀ fn0 : FuncId, FRel ⟨fn0, some l⟩ (F.inRound l') := fun fn0 => by
    refine .inr ⟨by simp, l', ?_⟩
    rcases hF with rfl | ⟨l2, rfl⟩ <;> rfl
  refine roundIn_of_wpIn (hFn _) ?_
  rw [q7, q8]
  dsimp only at h
  cases hd : dcode P ok n ⟨fn, some l⟩ as ⟨(ps.zip args).foldl (fun t p => t.put p.1 (some p.2)) tm, [], H⟩ with
  | none => rw [hd] at h; cases h
  | some p =>
    obtain ⟨ex1, st1⟩ := p
    rw [hd] at h
    cases ex1 with
    | exit i => cases h
    | ret => cases h
    | panic ch => cases h
    | normal =>
      simp only at h
      refine A.code (m := m) _ hd q11 ⟨hH, hz1, trivial, by rw [hz2]; exact q10, hg⟩ (hFr fn) ?_
      intro e a1 w1 σ1 he hs1 hst1
      cases e <;> try exact he.elim
      split at h
      case h_2 => cases h
      rename_i pend1 fn1 tm1 ps1 as1 bo1 d1 hgl1
      obtain ⟨b1, S1, es1, m1, L1, r1, r2, r3, r4, r5, r6, r7, r8, r9, r10, r11, r12, r13, r14⟩ := hs1.hH.loopAt hgl1
      have live : ∀ {σ2 : Nat → Loc} {b2 S2 es2 : Nat}, Ext σ σ2 → σ2 l = .live b2 S2 es2 → b2 = l' := fun he hl2 => by
        rcases he l with k | k | ⟨_, k⟩
        · rw [q1] at k; cases k
        · rw [q1, hl2] at k; cases k; rfl
        · rw [hl2] at k; cases k
      have hb1 := live hst1.ext r1
      subst hb1
      obtain ⟨hH2, hst2⟩ := hs1.hH.setLoop (s' := .busy) (pend' := pend1) hgl1 r1 r2 r3 r6 r7 r8 r9 r10 r11 r12 r13 r14
      have hL2 : ({ L1 with state := .busy, pending := pend1 } : Loop) = { L1 with state := .busy } := by rw [← r5]
      rw [hL2] at hH2 hst2
      refine ⟨_, run_beginRound r3 r4, ?_⟩
      cases hd2 : dcode P ok n ⟨fn, some l⟩ bo ⟨st1.tm, st1.ds, st1.H.put l (some (.loop .busy pend1 fn1 tm1 ps1 as1 bo1 d1))⟩ with
      | none => rw [hd2] at h; cases h
      | some p2 =>
        obtain ⟨ex2, st2⟩ := p2
        rw [hd2] at h
        refine A.code (m := m) _ hd2 q12 ⟨hH2, hs1.tm, hs1.ds, hs1.sz, hs1.gr⟩ (hFr fn) ?_
        intro e2 a2 w2 σ2 he2 hs2 hst3
        have hstA := hst1.trans (hst2.trans hst3)
        -- the round's end
        have fin : ∀ (jump : Option Code) (vv : Value) (s : LoopState), dendRound l jump vv s st2.H = some (v, H') → vv = .bool jump.isNone → s = (if jump.isNone then .ready else .done) → (jump = none ∨ jump = some .ret ∨ ∃ id, jump = some (.exit id)) →
            ∃ v' w', (Instr.endRound b1 jump).run P w2 = .ok v' w' ∧ ∃ v2 σ', Ending.returned v' = .returned v2 ∧ VR σ' τ v v2 ∧ HR P N w0 τ σ' H' w' ∧ Step σ H w σ' H' w' := by
          intro jump vv s hx hvv hss hj
          unfold dendRound at hx
          split at hx
          case h_2 => cases hx
          rename_i s0 pend0 fn3 tm3 ps3 as3 bo3 d3 hgl3
          cases hx
          obtain ⟨b3, S3, es3, m3, L3, t1, t2, t3, t4, t5, t6, t7, t8, t9, t10, t11, t12, t13, t14⟩ := hs2.hH.loopAt hgl3
          have hb3 := live hstA.ext t1
          subst hb3
          obtain ⟨hH4, hst4⟩ := hs2.hH.setLoop (s' := s) (pend' := jump) hgl3 t1 t2 t3 t6 t7 t8 t9 t10 t11 t12 t13 hj
          rw [hss] at hH4 hst4
          refine ⟨_, _, run_endRound t3 jump, _, σ2, rfl, ?_, by rw [hss]; exact hH4, by rw [hss]; exact hstA.trans hst4⟩
          rw [hvv]; exact .flat _ rfl
        cases ex2 with
        | normal =>
          cases e2 <;> try exact he2.elim
          exact fin none _ _ h rfl rfl (.inl rfl)
        | ret =>
          cases e2 <;> try exact he2.elim
          exact fin (some .ret) _ _ h rfl rfl (.inr (.inl rfl))
        | exit id =>
          cases e2 <;> try exact he2.elim
          rename_i id'
          have hid : id = id' := he2
          subst hid
          exact fin (some (.exit id)) _ _ h rfl rfl (.inr (.inr ⟨id, rfl⟩))
        | panic ch => cases h

theorem all_zero : All P N w0 τ ok 0 := by
  constructor
  · intros; rename_i h _ _ _ _; unfold dcode at h; cases h
  · intros; rename_i h _ _ _ _; unfold dcode at h; cases h
  · intros; rename_i h _ _ _ _; unfold dseq at h; cases h
  · intros; rename_i h _ _ _ _; unfold dops at h; cases h
  · intros; rename_i h _ _ _ _ _ _; unfold dop1 at h; cases h
  · intros; rename_i h _ _ _; unfold dcall at h; cases h
  · intros; rename_i h _ _ _ _ _ _; unfold dleave at h; cases h
  · intros; rename_i h _ _ _ _; unfold dround at h; cases h

theorem all_sound (hτ : ∀ j, (τ j).oneCell' = true) (hm : P.follows .mixedOrders = true) (hOK : OkFns P N w0 ok) : ∀ n, All P N w0 τ ok n := by
  intro n
  induction n using Nat.strongRecOn with
  | _ n ih =>
    cases n with
    | zero => exact all_zero
    | succ n =>
      have A := ih n (Nat.lt_succ_self n)
      have hE : ∀ k, k < n → All P N w0 τ ok k := fun k hk => ih k (by omega)
      exact {
        code := fun Q h hok hs hF hQ => code_step hτ hm A hE Q h hok hs hF hQ
        loop := fun Q h hok hs hF hQ => loop_step A Q h hok hs hF hQ
        seq := fun Q h hok hs hF hQ => seq_step A Q h hok hs hF hQ
        ops := fun Q h hok hs hF hQ => ops_step A Q h hok hs hF hQ
        op1 := fun K Q h hρ hH hd hg hF hK => op1_step hτ A K Q h hρ hH hd hg hF hK
        call := fun h hl hH hg => call_step hτ hOK A h hl hH hg
        leave := fun R h ht hd hu hH hg hR => leave_step hτ hOK A R h ht hd hu hH hg hR
        round := fun h hb hl hH hg => round_step A h hb hl hH hg }

/-- THE LAW: what the machine's run ends in is what the call ends in. -/
theorem calls_of_run (hτ : ∀ j, (τ j).oneCell' = true) (hm : P.follows .mixedOrders = true) (hOK : OkFns P N w0 ok) {f : FuncId} {args : List Value} {args' : Array Value} {H H' : Heap} {en : En} {w : World} {σ : Nat → Loc}
    (h : dcall P ok n f args H = some (en, H')) (hl : LR σ τ args args'.toList) (hH : HR P N w0 τ σ H w) (hg : GR P σ) :
    Calls P f args' w fun e w' => ∃ σ', EnR σ' τ en e ∧ HR P N w0 τ σ' H' w' ∧ Step σ H w σ' H' w' :=
  callsIn_wide.1 ((all_sound hτ hm hOK n).call h hl hH hg)
end
end Go.Hb
