/- The machine's soundness: code. -/
import Derived.Test.YtgcbbaeokigbdaaDoorHbSnd4
namespace Go.Hb
open Go Go.RowKit

section
variable {P : Program} {N : Nat} {w0 : World} {τ : Nat → Value} {ok : Ok} {n : Nat}

theorem FRel.round {x : Ctx} {F : Fence} (h : FRel x F) (hx : x.round = none) : F = Fence.wide := by
  rcases h with ⟨_, h⟩ | ⟨h, _⟩
  · exact h
  · exact absurd hx h

theorem HR.bump {σ : Nat → Loc} {H : Heap} {w : World} (h : HR P N w0 τ σ H w) (k : Nat) : HR P N w0 τ σ ⟨H.next + k, H.t⟩ w :=
  ⟨h.below, h.size, fun i hi => h.fresh i (by have : H.next + k ≤ i := hi; omega), h.blk, h.inj, h.lt⟩

theorem HR.get_none {σ : Nat → Loc} {H : Heap} {w : World} (h : HR P N w0 τ σ H w) {i : Nat} (hi : H.next ≤ i) : H.get i = none := by
  cases hg : H.get i with
  | none => rfl
  | some B => have := h.get_lt hg; omega

theorem lst_none {n i : Nat} : ¬ lst (Array.replicate n false) i := by
  unfold lst
  rw [Array.getD_eq_getD_getElem?, Array.getElem?_replicate]
  split <;> simp

theorem draw_step (hτ : ∀ j, (τ j).oneCell' = true) (hm : P.follows .mixedOrders = true) (hE : ∀ k, k < n → All P N w0 τ ok k) {x id ops st st' m a w σ F} (Q : Exit → Act → World → Prop)
    (h : ddraw P ok n x ops (Region.before ops) ((List.range ops.size).filter fun i => match ops[i]? with | some o => isEff o | none => false) st.H.next
      ((List.range ops.size).filter fun i => match ops[i]? with | some o => isEff o | none => false) 0 [⟨st.H.next + ops.size, st.H.t⟩] st.tm st.ds = some st')
    (hok : ops.toList.all (okOper P.globals.size m) = true) (hdr : okDraw ops = true) (hs : SR P N w0 τ σ st m a w) (hF : FRel x F) (hQ : Cont P N w0 τ σ st.H w .normal st' m Q) : (Code.region id ops true).wpIn F 0 P Q a w := by
  have R := RC.of_ok hdr
  refine wpIn_region_any hm ?_
  have hdrew : ({ w with drawn := w.drawn + 1 } : World) = w.drew := rfl
  rw [hdrew]
  refine draw_sim (N := N) (w0 := w0) (n := n) (x := x) (m := m) (tm0 := st.tm) (σ0 := σ) (H0 := st.H) (w1 := w) R hF.fn hτ hok ?_ hs.gr (fun i hi => ⟨hi, hs.hH.fresh i hi⟩) ops.size (Array.replicate ops.size false) n _ 0 _ [] st.tm st.ds σ a w.drew st' (Nat.le_refl _) ?_ R.sorted h ?_ (by simp) ?_ ?_ ?_ ?_ ?_
  · intro n' hn' o ρ ds H v ds1 H1 _ hd a w σ K Q hρ hH hds hg hK
    exact (hE n' hn').op1 K Q hd hρ hH hds hg hF hK
  · intro σ' a' w' hH' htm hds' hsz hst
    exact hQ .normal a' w' σ' trivial ⟨hH', htm, hds', hsz, hs.gr.ext hst.ext⟩ hst
  · exact ⟨fun i hi => by simp [bit] at hi, ⟨[], List.Perm.refl _, fun e he => (by cases he), rfl⟩, R.chain, R.topo R.sorted, fun e _ he => by simp [bit] at he, fun t _ => rfl⟩
  · intro i hi; exact absurd hi lst_none
  · intro i hi; simp [bit] at hi
  · intro e _ he; exact absurd he lst_none
  · refine ⟨hs.hH.drew.bump _, fun t v => ⟨fun hw => ?_, fun _ hv => hs.tm t v hv⟩, hs.ds, hs.sz, fun p o B mk hp => absurd hp lst_none, fun p _ _ => hs.hH.fresh _ (Nat.le_add_right _ _), fun p _ _ => hs.hH.get_none (Nat.le_add_right _ _), Nat.le_refl _, ?_⟩
    · obtain ⟨p, _, hp, _⟩ := hw; exact absurd hp lst_none
    · exact ⟨Nat.le_add_right _ _, Ext.refl σ, fun i b S es hi => .inr (.inl ⟨S, es, hi⟩), fun _ _ _ => rfl, Nat.le_refl _, fun i _ hg => ⟨rfl, hg⟩⟩
  · have := List.length_filter_le (fun i => !(Array.replicate ops.size false).getD i false) (List.range ops.size)
    simpa using this

/-- the marks' block and the loop's record are laid -/
theorem enter_sound {σ : Nat → Loc} {H : Heap} {w : World} (hH : HR P N w0 τ σ H w) {tm : Tr Value} (L : Loop) (htm : TmR σ τ tm L.tmps) {ps : List Tmp} {as bo : Code} {m : Nat} {fnx : FuncId} (hL1 : L.state = .ready) (hL2 : L.pending = none)
    (hL3 : L.params.toList = ps) (hL4 : L.assign = as) (hL5 : L.body = bo) (hsz : m ≤ L.tmps.size) (hok3 : okCode P.globals.size m as = true) (hok4 : okCode P.globals.size m bo = true) (hps : ∀ t ∈ ps, t < m) :
    ∃ σ2, HR P N w0 τ σ2 ((H.new (some .dfr)).new (some (.loop .ready none fnx tm ps as bo H.next))) ((w.alloc (.deferred (some []))).alloc (.loop L)) ∧
      Step σ H w σ2 ((H.new (some .dfr)).new (some (.loop .ready none fnx tm ps as bo H.next))) ((w.alloc (.deferred (some []))).alloc (.loop L)) ∧
      σ2 H.next = .live w.heap.size 0 0 ∧ σ2 (H.new (some .dfr)).next = .live (w.heap.size + 1) 0 0 := by
  obtain ⟨hH1, hst1⟩ := hH.alloc (w' := w.alloc (.deferred (some []))) (B := .dfr) (S := 0) (es := 0) rfl rfl rfl (by simp) (fun k hk => Below.heap_alloc w _ k hk)
    (.dfr _ _ _ hH.size (by show (w.heap.push _)[w.heap.size]? = _; simp))
  have hsz' : (w.alloc (.deferred (some []))).heap.size = w.heap.size + 1 := by simp
  have htm1 := htm.ext hst1.ext
  have hN := hH.size
  obtain ⟨hH2, hst2⟩ := hH1.alloc (w' := (w.alloc (.deferred (some []))).alloc (.loop L))
    (B := .loop .ready none fnx tm ps as bo H.next) (S := 0) (es := 0) rfl rfl rfl (by simp) (fun k hk => Below.heap_alloc _ _ k hk)
    (.loop _ _ _ _ _ _ _ _ _ _ _ m L (by omega)
      (by show ((w.alloc (.deferred (some []))).heap.push _)[(w.alloc (.deferred (some []))).heap.size]? = _; exact Array.getElem?_push_size) hL1 hL2 hL3 hL4 hL5 (htm1.ext (hH1.ext_new _)) hsz hok3 hok4 hps (.inl rfl))
  refine ⟨_, hH2, hst1.trans hst2, ?_, ?_⟩
  · have hne : H.next ≠ (H.new (some .dfr)).next := Nat.ne_of_lt (Nat.lt_succ_self _)
    rw [upd_other _ _ hne, upd_same]
  · rw [upd_same, hsz']

theorem run_enterLoop (fnid : FuncId) (tmps : Array Value) (ps : Array Tmp) (as bo : Code) (w : World) :
    (Instr.enterLoop fnid tmps ps as bo none).run P w = .ok (w.heap.size + 1, [{ target := .collected w.heap.size, args := #[] }])
      ((w.alloc (.deferred (some []))).alloc (.loop { state := .ready, pending := none, fn := fnid, tmps := tmps, params := ps, assign := as, body := bo, defers := w.heap.size })) := by
  have hsz : (w.alloc (.deferred (some []))).heap.size = w.heap.size + 1 := by simp
  simp [Instr.enterLoop, Sem.run_bind, hsz]

theorem run_endLoop {w : World} {b : Nat} {L : Loop} (h : w.heap[b]? = some (.loop L)) (hb : L.state ≠ .busy) :
    (Instr.endLoop b).run P w = .ok L.pending { w with heap := w.heap.setIfInBounds b (.loop { L with state := .exhausted }) } := by
  simp [Instr.endLoop, Sem.run_bind, run_getLoop h, hb, run_setLoop h]

theorem run_rangeCall {a : Act} {f : Operand} {g : FuncId} {x y : Array Value} (l : Nat) (h : a.eval f = .func (.func g) x y) (w : World) :
    (resolve a.eval (rangeCall f l) 0).run P w = .ok { target := .fn (.func g) y, args := x ++ #[.func (.yield l) #[] #[]] } w := by
  have hc : a.eval (.const (.func (.yield l) #[] #[])) = .func (.yield l) #[] #[] := rfl
  simp [rangeCall, resolve, h, hc, Deferred.ofValue, Sem.run_bind]

theorem range_step (A : All P N w0 τ ok n) {x : Ctx} {f : Operand} {ps : Array Tmp} {as bo : Code} {st st' : St} {ex : Ex} {m : Nat} {a : Act} {w : World} {σ : Nat → Loc} (Q : Exit → Act → World → Prop)
    (hok1 : okOpnd P.globals.size f = true) (hok2 : ∀ t ∈ ps.toList, t < m) (hok3 : okCode P.globals.size m as = true) (hok4 : okCode P.globals.size m bo = true) (hs : SR P N w0 τ σ st m a w) (hF : FRel x Fence.wide)
    {g : FuncId} {first captured : Array Value} (hv : ev st.tm f = .func (.func g) first captured) {d1 : Dr} (hd1 : dcall1 P g [] = some d1) {v : Value} {H3 : Heap}
    (hc : dcall P ok n g (first.toList ++ [.func (.yield (st.H.new (some .dfr)).next) #[] #[]] ++ captured.toList) ((st.H.new (some .dfr)).new (some (.loop .ready none x.fn st.tm ps.toList as bo st.H.next))) = some (.ret v, H3))
    {s : LoopState} {pend : Option Code} {fn3 : FuncId} {tm3 : Tr Value} {ps3 : List Tmp} {as3 bo3 : Code} {dd3 : Nat} (hg3 : H3.get (st.H.new (some .dfr)).next = some (.loop s pend fn3 tm3 ps3 as3 bo3 dd3)) (hnb : s ≠ .busy)
    (h : (match (generalizing := false) pend with
      | none => some (Ex.normal, (⟨st.tm, { target := .collected st.H.next, args := #[] } :: st.ds, H3.put (st.H.new (some .dfr)).next (some (.loop .exhausted pend fn3 tm3 ps3 as3 bo3 dd3))⟩ : St))
      | some c => dcode P ok n x c ⟨st.tm, { target := .collected st.H.next, args := #[] } :: st.ds, H3.put (st.H.new (some .dfr)).next (some (.loop .exhausted pend fn3 tm3 ps3 as3 bo3 dd3))⟩) = some (ex, st'))
    (hQ : Cont P N w0 τ σ st.H w ex st' m Q) : (Code.rangeFunc f ps as bo).wpIn Fence.wide 0 P Q a w := by
  have hy := opnd hs.tm hs.gr hok1
  rw [hv] at hy
  obtain ⟨first', captured', e1, hf, hcap⟩ := hy.func_inv
  obtain ⟨_, hcallf⟩ := dcall1_sound hd1
  refine wpIn_rangeFunc fun fnid _ => ?_
  obtain ⟨σ2, hH2, hst2, hσd, hσl⟩ := enter_sound hs.hH (tm := st.tm) (fnx := x.fn) (m := m) { state := .ready, pending := none, fn := fnid, tmps := a.tmps, params := ps, assign := as, body := bo, defers := w.heap.size } hs.tm rfl rfl rfl rfl rfl hs.sz hok3 hok4 hok2
  have hbr : BR σ2 (st.H.new (some .dfr)).next (w.heap.size + 1) := by unfold BR; rw [hσl]
  have hargs : LR σ2 τ (first.toList ++ [Value.func (.yield (st.H.new (some .dfr)).next) #[] #[]] ++ captured.toList) (first' ++ #[Value.func (.yield (w.heap.size + 1)) #[] #[]] ++ captured').toList := by
    simp only [Array.toList_append]
    exact LR.append (LR.append (hf.ext hst2.ext) (LR.cons (.yield _ _ hbr) LR.nil)) (hcap.ext hst2.ext)
  have hcall := A.call hc hargs hH2 (hs.gr.ext hst2.ext)
  refine ⟨w.heap.size + 1, [{ target := .collected w.heap.size, args := #[] }], _, { target := .fn (.func g) captured', args := first' ++ #[.func (.yield (w.heap.size + 1)) #[] #[]] }, _, g, first' ++ #[Value.func (.yield (w.heap.size + 1)) #[] #[]] ++ captured', _,
    run_enterLoop fnid a.tmps ps as bo w, run_rangeCall _ e1 _, fun _ _ => trivial, (by simp only [invoke]; exact hcallf _ _), fun hd => (by cases hd), CallsIn.mono hcall ?_⟩
  intro e w3 he
  obtain ⟨σ3, hen, hH3, hst3⟩ := he
  cases e with
  | panicked _ => exact hen.elim
  | outgrown => exact hen.elim
  | returned v' =>
    obtain ⟨b, S, es, mm, L3, q1, q2, q3, q4, q5, q6, q7, q8, q9, q10, q11, q12, q13, q14⟩ := hH3.loopAt hg3
    have hbe : b = w.heap.size + 1 := by
      rcases hst3.ext (st.H.new (some .dfr)).next with k | k | ⟨_, k⟩
      · rw [hσl] at k; cases k
      · rw [hσl, q1] at k; cases k; rfl
      · rw [q1] at k; cases k
    subst hbe
    obtain ⟨hH4, hst4⟩ := hH3.setLoop (s' := .exhausted) (pend' := pend) hg3 q1 q2 q3 q6 q7 q8 q9 q10 q11 q12 q13 q14
    have hstA := hst2.trans (hst3.trans hst4)
    have hL : ({ L3 with state := .exhausted, pending := pend } : Loop) = { L3 with state := .exhausted } := by rw [← q5]
    have hend := run_endLoop (P := P) q3 (by rw [q4]; exact hnb)
    rw [← hL, q5] at hend
    have hsr : SR P N w0 τ σ3 ⟨st.tm, { target := .collected st.H.next, args := #[] } :: st.ds, H3.put (st.H.new (some .dfr)).next (some (.loop .exhausted pend fn3 tm3 ps3 as3 bo3 dd3))⟩ m { a with defers := [{ target := .collected w.heap.size, args := #[] }] ++ a.defers }
        { w3 with heap := w3.heap.setIfInBounds (w.heap.size + 1) (.loop { L3 with state := .exhausted, pending := pend }) } := by
      refine ⟨hH4, hs.tm.ext hstA.ext, ⟨⟨LR.nil, .inr ⟨st.H.next, w.heap.size, rfl, rfl, ?_⟩⟩, hs.ds.ext hstA.ext⟩, hs.sz, hs.gr.ext hstA.ext⟩
      have : BR σ2 st.H.next w.heap.size := by unfold BR; rw [hσd]
      exact this.ext (hst3.trans hst4).ext
    refine ⟨pend, _, hend, ?_⟩
    cases pend with
    | none =>
      cases h
      exact hQ .normal _ _ σ3 trivial hsr hstA
    | some c =>
      have hokc : okCode P.globals.size m c = true := by
        rcases q14 with k | k | ⟨id, k⟩
        · cases k
        · cases k; rfl
        · cases k; rfl
      exact A.code Q h hokc hsr hF fun e2 a2 w2 σ5 he2 hs2 hst5 => hQ e2 a2 w2 σ5 he2 hs2 (hstA.trans hst5)

theorem code_step (hτ : ∀ j, (τ j).oneCell' = true) (hm : P.follows .mixedOrders = true) (A : All P N w0 τ ok n) (hE : ∀ k, k < n → All P N w0 τ ok k) {x c st ex st' m a w σ F} (Q : Exit → Act → World → Prop)
    (h : dcode P ok (n + 1) x c st = some (ex, st')) (hok : okCode P.globals.size m c = true) (hs : SR P N w0 τ σ st m a w) (hF : FRel x F) (hQ : Cont P N w0 τ σ st.H w ex st' m Q) : c.wpIn F 0 P Q a w := by
  cases c with
  | skip => unfold dcode at h; cases h; exact wpIn_skip (hQ .normal a w σ trivial hs (Step.refl _ _ _))
  | label l => unfold dcode at h; cases h; exact wpIn_label (hQ .normal a w σ trivial hs (Step.refl _ _ _))
  | exit i => unfold dcode at h; cases h; exact wpIn_exit (hQ (.exit i) a w σ rfl hs (Step.refl _ _ _))
  | ret => unfold dcode at h; cases h; exact wpIn_ret (hQ .ret a w σ trivial hs (Step.refl _ _ _))
  | region id ops dr =>
    unfold okCode at hok
    rw [Bool.and_eq_true] at hok
    cases dr with
    | false =>
      unfold dcode at h
      exact wpIn_region (A.ops Q h hok.1 hs hF hQ)
    | true =>
      unfold dcode at h
      simp only at h
      split at h
      · rename_i st1 hd
        cases h
        exact draw_step hτ hm hE Q hd hok.1 (by simpa using hok.2) hs hF hQ
      · cases h
  | seq c1 c2 =>
    unfold dcode at h
    simp only at h
    unfold okCode at hok
    rw [Bool.and_eq_true] at hok
    refine wpIn_seq ?_
    cases hc : dcode P ok n x c1 st with
    | none => rw [hc] at h; cases h
    | some p =>
      obtain ⟨ex1, st1⟩ := p
      rw [hc] at h
      refine A.code _ hc hok.1 hs hF ?_
      intro e a' w' σ' he hs' hst
      cases ex1 with
      | normal =>
        cases e <;> try exact he.elim
        exact A.code Q h hok.2 hs' hF fun e2 a2 w2 σ2 he2 hs2 hst2 => hQ e2 a2 w2 σ2 he2 hs2 (hst.trans hst2)
      | exit i => cases h; cases e <;> try exact he.elim
                  exact hQ _ a' w' σ' he hs' hst
      | ret => cases h; cases e <;> try exact he.elim
               exact hQ _ a' w' σ' he hs' hst
      | panic ch => cases h; cases e <;> try exact he.elim
                    exact hQ _ a' w' σ' he hs' hst
  | cond y c1 c2 =>
    unfold dcode at h
    simp only at h
    unfold okCode at hok
    rw [Bool.and_eq_true, Bool.and_eq_true] at hok
    have hy := opnd hs.tm hs.gr hok.1.1
    split at h
    · rename_i hv
      rw [hv] at hy
      exact wpIn_cond_true (hy.flat_eq rfl) (A.code Q h hok.1.2 hs hF hQ)
    · rename_i hv
      rw [hv] at hy
      exact wpIn_cond_false (hy.flat_eq rfl) (A.code Q h hok.2 hs hF hQ)
    · cases h
  | block i c1 =>
    unfold dcode at h
    simp only at h
    unfold okCode at hok
    refine wpIn_block ?_
    cases hc : dcode P ok n x c1 st with
    | none => rw [hc] at h; cases h
    | some p =>
      obtain ⟨ex1, st1⟩ := p
      rw [hc] at h
      refine A.code _ hc hok hs hF ?_
      intro e a' w' σ' he hs' hst
      cases ex1 with
      | normal => cases h; cases e <;> try exact he.elim
                  exact hQ .normal a' w' σ' trivial hs' hst
      | exit j =>
        cases e <;> try exact he.elim
        rename_i j'
        have hj : j = j' := he
        subst hj
        show (if j = i then Q .normal a' w' else Q (.exit j) a' w')
        by_cases hji : j = i
        · subst hji
          simp only [Nat.beq_refl, if_true] at h
          cases h
          rw [if_pos rfl]; exact hQ .normal a' w' σ' trivial hs' hst
        · have hb : Nat.beq j i = false := by rw [← Bool.not_eq_true, Nat.beq_eq]; exact hji
          simp only [hb, Bool.false_eq_true, if_false] at h
          cases h
          rw [if_neg hji]; exact hQ (.exit j) a' w' σ' rfl hs' hst
      | ret => cases h; cases e <;> try exact he.elim
               exact hQ _ a' w' σ' he hs' hst
      | panic ch => cases h; cases e <;> try exact he.elim
                    exact hQ _ a' w' σ' he hs' hst
  | scope c1 =>
    unfold dcode at h
    simp only at h
    unfold okCode at hok
    refine wpIn_scope (A.code _ h hok hs hF ?_)
    intro e a' w' σ' he hs' hst
    have hq := hQ e a' w' σ' he hs' hst
    cases e with
    | goto l => cases ex <;> exact he.elim
    | _ => exact hq
  | loop c1 =>
    unfold okCode at hok
    exact wpIn_loop_rounds (n + 1) (loop_step A Q h hok hs hF hQ)
  | rangeFunc f ps as bo =>
    unfold dcode at h
    simp only at h
    unfold okCode at hok
    simp only [Bool.and_eq_true] at hok
    obtain ⟨⟨⟨hok1, hok2⟩, hok3⟩, hok4⟩ := hok
    split at h
    case h_2 => cases h
    rename_i g first captured hx hv
    split at h
    · cases h
    rename_i hd1
    have hFw := hF.round hx
    subst hFw
    have hd1' : ∃ d, dcall1 P g [] = some d := by
      cases hh : dcall1 P g [] with
      | none => rw [hh] at hd1; simp at hd1
      | some d => exact ⟨d, rfl⟩
    obtain ⟨d1, hd1'⟩ := hd1'
    split at h
    case h_2 => cases h
    rename_i v H3 hc
    split at h
    case h_2 => cases h
    rename_i s pend fn3 tm3 ps3 as3 bo3 dd3 hg3
    refine range_step A Q hok1 (fun t ht => by have := List.all_eq_true.1 hok2 t ht; simpa [Nat.blt_eq] using this) hok3 hok4 hs hF hv hd1' hc hg3 ?_ ?_ hQ
    · intro hb; subst hb; cases h
    · cases s <;> first | cases h | exact h
  | _ => unfold dcode at h; cases h
end
end Go.Hb
