/- A region that draws: two stores at its end that stand in no order. -/
import Derived.Test.YtgcbbaeokigbdaaDoorHbDraw3
namespace Go.Hb
open Go Go.RowKit

theorem cellEq_eq {v u : Value} (h : cellEq v u = true) : v = u := by
  unfold cellEq at h
  rw [Bool.or_eq_true] at h
  rcases h with h | h
  · exact veq_eq v u h
  · split at h
    · rfl
    · cases h
theorem cellsEq_eq : ∀ {a b : List Value}, cellsEq a b = true → a = b
  | [], [], _ => rfl
  | v :: a, u :: b, h => by
    unfold cellsEq at h
    rw [Bool.and_eq_true] at h
    rw [cellEq_eq h.1, cellsEq_eq h.2]
  | [], _ :: _, h => by unfold cellsEq at h; cases h
  | _ :: _, [], h => by unfold cellsEq at h; cases h
theorem blkEq_eq {a b : Option Blk} (h : blkEq a b = true) : a = b := by
  unfold blkEq at h
  split at h
  · rfl
  · rw [Bool.and_eq_true, Nat.beq_eq] at h; rw [h.1, cellsEq_eq h.2]
  · rw [Bool.and_eq_true, Nat.beq_eq] at h; rw [h.1, cellsEq_eq h.2]
  · rw [Nat.beq_eq] at h; rw [h]
  · cases h
theorem slotEq_eq {a b : Option Value} (h : slotEq a b = true) : a = b := by
  unfold slotEq at h
  split at h
  · rfl
  · rw [cellEq_eq h]
  · cases h

section
variable {P : Program} {ops : Array Oper} {b : Array Nat} {effs : List Nat} {ok : Ok} {n : Nat} {x : Ctx} {base : Nat}

theorem agree_inv {p q : Nat} {st st' : St} (h : agree ops base p q st st' = true) :
    (∀ (i : Nat) (o : Oper) (d : Tmp), ops[i]? = some o → o.dst = some d → st.tm.get d = st'.tm.get d) ∧ st.H.get p = st'.H.get p ∧ st.H.get q = st'.H.get q ∧ ∀ i, i < ops.size → st.H.get (base + i) = st'.H.get (base + i) := by
  unfold agree at h
  simp only [Bool.and_eq_true, List.all_eq_true] at h
  obtain ⟨⟨⟨h1, h2⟩, h3⟩, h4⟩ := h
  refine ⟨fun i o d ho hd => ?_, blkEq_eq h2, blkEq_eq h3, fun i hi => blkEq_eq (h4 i (List.mem_range.2 hi))⟩
  have hm : o ∈ ops.toList := by
    obtain ⟨k1, k2⟩ := Array.getElem?_eq_some_iff.1 ho
    rw [← k2]; exact Array.getElem_mem_toList k1
  have := h1 o hm
  rw [hd] at this
  exact slotEq_eq this

theorem isSt_inv {e : Nat} {o : Oper} (h : isSt ops e = true) (ho : ops[e]? = some o) : o.dst = none ∧ o.guard = none ∧ ∃ t a v, o.op = .store t a v := by
  unfold isSt at h
  rw [ho] at h
  simp only [Bool.and_eq_true, Option.isNone_iff_eq_none] at h
  refine ⟨h.1.1, h.1.2, ?_⟩
  have := h.2
  split at this
  · rename_i t a v hop; exact ⟨t, a, v, hop⟩
  · cases this

theorem foldl_puts : ∀ (l : List (Nat × Blk)) (H : Heap), (l.foldl (fun H p => H.put (base + p.1) (some p.2)) H).next = H.next ∧
    ∀ j, (∀ p ∈ l, j ≠ base + p.1) → (l.foldl (fun H p => H.put (base + p.1) (some p.2)) H).get j = H.get j
  | [], H => ⟨rfl, fun _ _ => rfl⟩
  | p :: l, H => by
    obtain ⟨h1, h2⟩ := foldl_puts l (H.put (base + p.1) (some p.2))
    refine ⟨h1, fun j hj => ?_⟩
    rw [List.foldl_cons, h2 j (fun q hq => hj q (List.mem_cons_of_mem _ hq)), Heap.get_put, if_neg (hj p (by simp))]

theorem store_frame {o : Oper} {ρ : Operand → Value} {ds ds1 : List Deferred} {H H' : Heap} {v : Value} {t : TypeId} {a y : Operand} (hop : o.op = .store t a y) (h : dop1 P ok n x o ρ ds H = some (.val v ds1 H')) :
    ds1 = ds ∧ H'.next = H.next ∧ ∀ j, stBlk o ρ ≠ some j → H'.get j = H.get j := by
  cases n with
  | zero => unfold dop1 at h; cases h
  | succ n =>
    unfold dop1 at h
    have hd : ∀ r, dop P o ρ H = some r → ∃ H2, r = .val undef H2 ∧ H2.next = H.next ∧ ∀ j, stBlk o ρ ≠ some j → H2.get j = H.get j := by
      intro r hr
      unfold dop at hr
      rw [hop] at hr
      simp only at hr
      split at hr
      · rename_i ad hρ
        split at hr
        · obtain ⟨H2, h2, rfl⟩ := Option.map_eq_some_iff.1 hr
          refine ⟨H2, rfl, ?_⟩
          unfold Heap.store at h2
          split at h2
          · split at h2
            · cases h2
              refine ⟨rfl, fun j hj => ?_⟩
              rw [Heap.get_put, if_neg]
              rintro rfl
              refine hj ?_
              unfold stBlk
              rw [hop]
              simp only [hρ]
            · cases h2
          · cases h2
        · cases hr
      · cases hr
    split at h
    · rename_i v' H2 hd2
      cases h
      obtain ⟨H3, e, h1, h2⟩ := hd _ hd2
      cases e
      exact ⟨rfl, h1, h2⟩
    all_goals first
      | (rename_i hd2; obtain ⟨_, e, _⟩ := hd _ hd2; cases e; done)
      | cases h
      | skip

theorem stBlk_congr {o : Oper} {ρ ρ' : Operand → Value} (h : ∀ y ∈ o.op.operands.toList, ρ y = ρ' y) : stBlk o ρ = stBlk o ρ' := by
  unfold stBlk
  cases hop : o.op with
  | store t a v =>
    simp only
    rw [h a (by rw [hop]; simp [Op.operands])]
  | _ => rfl

/-- what the last stores leave alone -/
theorem ddraw_frame (R : RC ops b effs) {tm0 : Tr Value} {st : St} : ∀ {es : List Nat} {n done : Nat} {G : Heap} {gs : List Heap} {tm : Tr Value} {ds : List Deferred} {k : Nat},
    ddraw P ok n x ops b effs base es done (G :: gs) tm ds = some st → DI ops b effs tm0 es done tm k → (∀ e ∈ es, isSt ops e = true) →
    st.H.next = G.next ∧ st.ds = ds ∧ ∀ j, (∀ i, i < ops.size → j ≠ base + i) → (∀ e ∈ es, ∀ o, ops[e]? = some o → stBlk o (rho ops b tm0 st.tm e) ≠ some j) → st.H.get j = G.get j
  | [], n, done, G, gs, tm, ds, k, h, D, _ => by
    obtain ⟨tm1, H1, hd, rfl⟩ := ddraw_nil h
    obtain ⟨_, _, l, hl1, hl2⟩ := dnon_facts R (tmF := tm1) hd rest_sorted D.ds (D.last R) (fun t _ => rfl) D.t0
    simp only at hl1
    subst hl1
    obtain ⟨f1, f2⟩ := foldl_puts (base := base) l G
    exact ⟨f1, rfl, fun j hj _ => f2 j fun p hp => hj p.1 (mem_rest.1 (hl2 p hp).1).1⟩
  | e :: es, n, done, G, gs, tm, ds, k, h, D, hst => by
    obtain ⟨n', tm1, H1, o, v, ds1, H2, _, hdn, ho, h', hc⟩ := ddraw_cons h
    obtain ⟨f1, f2⟩ := stage_final R D ho h'
    obtain ⟨_, ht0, l, hl1, hl2⟩ := dnon_facts R (tmF := st.tm) hdn pending_sorted D.ds (D.pend R) f1 D.t0
    simp only at hl1
    subst hl1
    obtain ⟨g1, g2⟩ := foldl_puts (base := base) l G
    obtain ⟨e1, e2, t, a, y, e3⟩ := isSt_inv (hst e (by simp)) ho
    obtain ⟨k1, k2, k3⟩ := ddraw_frame R h' (D.next R (stage_t0 R ho ht0)) (fun f hf => hst f (List.mem_cons_of_mem _ hf))
    rcases hc with ⟨c1, _⟩ | ⟨c1, c2⟩
    · rw [wanted_none' e2] at c1; cases c1
    · obtain ⟨s1, s2, s3⟩ := store_frame e3 c2
      refine ⟨by rw [k1, s2, g1], by rw [k2, s1], fun j hj hno => ?_⟩
      rw [k3 j hj (fun f hf of hof => hno f (List.mem_cons_of_mem _ hf) of hof), s3 j ?_, g2 j fun p hp => hj p.1 (mem_pending.1 (hl2 p hp).1).1]
      have hrho := pend_rho R D ho ht0 f1
      rw [stBlk_congr hrho]
      exact hno e (by simp) o ho
where
  wanted_none' {tm : Tr Value} {o : Oper} (h : o.guard = none) : dwanted ops tm o = some true := by unfold dwanted; rw [h]
  pend_rho (R : RC ops b effs) {tm0 : Tr Value} {st : St} {es : List Nat} {done : Nat} {tm tm1 : Tr Value} {k e : Nat} {o : Oper} (D : DI ops b effs tm0 (e :: es) done tm k) (ho : ops[e]? = some o)
      (ht0 : ∀ t, ¬ written ops (fun i => bit done i ∨ i ∈ pending (List.range ops.size) effs (b.getD e 0) done) t → tm1.get t = tm0.get t)
      (f1 : ∀ t, written ops (fun i => bit done i ∨ i ∈ pending (List.range ops.size) effs (b.getD e 0) done) t → tm1.get t = st.tm.get t) :
      ∀ y ∈ o.op.operands.toList, ev tm1 y = rho ops b tm0 st.tm e y := by
    have hTI : TI ops tm0 st.tm (fun j => bit done j ∨ j ∈ pending (List.range ops.size) effs (b.getD e 0) done) tm1 := fun t => ⟨f1 t, ht0 t⟩
    have hdsL : DS ops b (fun j => bit done j ∨ j ∈ pending (List.range ops.size) effs (b.getD e 0) done) := fun j hj => by
      rcases hj with hj | hj
      · exact ⟨(D.ds j hj).1, fun k hk => .inl ((D.ds j hj).2 k hk)⟩
      · exact ⟨((D.pend R) j hj).1, ((D.pend R) j hj).2.2.2⟩
    refine R.ev_rho hdsL hTI ho ?_ ?_
    · rintro (h | h)
      · exact D.noe e (by simp) h
      · have := R.anc_lt _ _ (mem_pending.1 h).2.1; omega
    · intro j hj
      by_cases hb : bit done j
      · exact .inl hb
      · refine .inr (mem_pending.2 ⟨by have := R.anc_lt _ _ hj; have := lt_of_some ho; omega, hj, hb, fun hje => ?_⟩)
        obtain ⟨pre, hp, hpd, _⟩ := D.sfx
        rw [hp.mem_iff] at hje
        rcases List.mem_append.1 hje with hje | hje
        · exact hb (hpd j hje)
        · rcases List.mem_cons.1 hje with rfl | hje
          · have := R.anc_lt _ _ hj; omega
          · exact ((List.pairwise_cons.1 D.topo).1 j hje).2 hj

/-- the other order's list -/
theorem DI.swap {tm0 tm : Tr Value} {e f done k : Nat} (D : DI ops b effs tm0 [e, f] done tm k) (hb : ¬ anc b f e) (h1 : isSt ops e = true) (h2 : isSt ops f = true) : DI ops b effs tm0 [f, e] done tm k := by
  obtain ⟨pre, hp, hpd, hk⟩ := D.sfx
  have ht := (List.pairwise_cons.1 D.topo).1 f (by simp)
  refine ⟨D.ds, ⟨pre, hp.trans (List.Perm.append_left _ (List.Perm.swap f e [])), hpd, hk⟩, ?_, ?_, fun g hg => D.noe g (by simp at hg ⊢; exact hg.symm), D.t0⟩
  · simp [chainOK, h1, h2]
  · simp only [List.pairwise_cons, List.mem_singleton, List.not_mem_nil, false_implies, implies_true, List.Pairwise.nil, and_true, forall_eq]
    exact ⟨fun h => ht.1 h.symm, hb⟩

/-- BOTH ORDERS END ALIKE -/
theorem twin_same (R : RC ops b effs) {tm0 : Tr Value} {st st' : St} {e f p q done k : Nat} {G : Heap} {gs : List Heap} {tm : Tr Value} {ds : List Deferred}
    (h : ddraw P ok n x ops b effs base [e, f] done (G :: gs) tm ds = some st) (h' : ddraw P ok n x ops b effs base [f, e] done (G :: gs) tm ds = some st') (D : DI ops b effs tm0 [e, f] done tm k)
    (hb : ¬ anc b f e) (h1 : isSt ops e = true) (h2 : isSt ops f = true) (hpq : dtwin P ops b effs base done (G :: gs) tm e f = some (p, q)) (hag : agree ops base p q st st' = true) :
    (∀ t, st'.tm.get t = st.tm.get t) ∧ (∀ j, st'.H.get j = st.H.get j) ∧ st'.H.next = st.H.next ∧ st'.ds = st.ds := by
  have D' := D.swap hb h1 h2
  obtain ⟨a1, a2, a3, a4⟩ := agree_inv hag
  have htm : ∀ t, st'.tm.get t = st.tm.get t := by
    intro t
    by_cases hw : ∃ (i : Nat) (o : Oper), ops[i]? = some o ∧ o.dst = some t
    · obtain ⟨i, o, ho, hd⟩ := hw
      exact (a1 i o t ho hd).symm
    · rw [ddraw_keeps R (k := k) h D.noe D.topo (fun i o ho hd => absurd ⟨i, o, ho, hd⟩ hw), ddraw_keeps R (k := k) h' D'.noe D'.topo (fun i o ho hd => absurd ⟨i, o, ho, hd⟩ hw)]
  have hst : ∀ g ∈ [e, f], isSt ops g = true := fun g hg => by
    rcases List.mem_cons.1 hg with rfl | hg
    · exact h1
    · rw [List.mem_singleton] at hg; subst hg; exact h2
  have hst' : ∀ g ∈ [f, e], isSt ops g = true := fun g hg => hst g (by simp at hg ⊢; exact hg.symm)
  obtain ⟨s1, s2, s3⟩ := ddraw_frame R h D hst
  obtain ⟨s1', s2', s3'⟩ := ddraw_frame R h' D' hst'
  have hrho : ∀ i, rho ops b tm0 st'.tm i = rho ops b tm0 st.tm i := fun i => by
    funext y
    unfold rho
    cases y with
    | tmp t => simp only [ev, htm]
    | _ => rfl
  -- the blocks that are written
  have hp : ∀ o, ops[e]? = some o → stBlk o (rho ops b tm0 st.tm e) = some p := by
    intro o ho
    obtain ⟨n', tm1, H1, o', v, ds1, H2, _, hdn, ho', hr, hc⟩ := ddraw_cons h
    rw [ho] at ho'; cases ho'
    obtain ⟨f1, f2⟩ := stage_final R D ho hr
    obtain ⟨_, ht0, _⟩ := dnon_facts R (tmF := st.tm) hdn pending_sorted D.ds (D.pend R) f1 D.t0
    rw [← stBlk_congr (ddraw_frame.pend_rho R D ho ht0 f1)]
    unfold dtwin at hpq
    simp only at hpq
    rw [hdn, ho] at hpq
    split at hpq
    · rename_i t1 _ t2 _ o1 o2 q1 q2 q3 q4
      cases q1; cases q3
      split at hpq
      · rename_i p' q' r1 r2
        cases hpq; exact r1
      · cases hpq
    · cases hpq
  have hq : ∀ o, ops[f]? = some o → stBlk o (rho ops b tm0 st.tm f) = some q := by
    intro o ho
    obtain ⟨n', tm1, H1, o', v, ds1, H2, _, hdn, ho', hr, hc⟩ := ddraw_cons h'
    rw [ho] at ho'; cases ho'
    obtain ⟨f1, f2⟩ := stage_final R D' ho hr
    obtain ⟨_, ht0, _⟩ := dnon_facts R (tmF := st'.tm) hdn pending_sorted D'.ds (D'.pend R) f1 D'.t0
    rw [← hrho, ← stBlk_congr (ddraw_frame.pend_rho R D' ho ht0 f1)]
    unfold dtwin at hpq
    simp only at hpq
    rw [hdn, ho] at hpq
    split at hpq
    · rename_i t1 _ t2 _ o1 o2 q1 q2 q3 q4
      cases q2; cases q4
      split at hpq
      · rename_i p' q' r1 r2
        cases hpq; exact r2
      · cases hpq
    · cases hpq
  refine ⟨htm, fun j => ?_, by rw [s1, s1'], by rw [s2, s2']⟩
  by_cases hjp : j = p
  · rw [hjp]; exact a2.symm
  · by_cases hjq : j = q
    · rw [hjq]; exact a3.symm
    · by_cases hjb : ∃ i, i < ops.size ∧ j = base + i
      · obtain ⟨i, hi, rfl⟩ := hjb
        exact (a4 i hi).symm
      · have hj0 : ∀ i, i < ops.size → j ≠ base + i := fun i hi hij => hjb ⟨i, hi, hij⟩
        have hno : ∀ g, (g = e ∨ g = f) → ∀ o, ops[g]? = some o → stBlk o (rho ops b tm0 st.tm g) ≠ some j := by
          rintro g (rfl | rfl) o ho hh
          · rw [hp o ho] at hh; cases hh; exact hjp rfl
          · rw [hq o ho] at hh; cases hh; exact hjq rfl
        rw [s3 j hj0 (fun g hg o ho => hno g (by simpa using hg) o ho), s3' j hj0 (fun g hg o ho => by rw [hrho]; exact hno g (by simp at hg; exact hg.symm) o ho)]

/-! ## What is said of a heap is said of its likes -/
theorem HR.like {N : Nat} {w0 w : World} {τ : Nat → Value} {σ : Nat → Loc} {H H' : Heap} (h : HR P N w0 τ σ H' w) (hg : ∀ j, H'.get j = H.get j) (hn : H'.next = H.next) : HR P N w0 τ σ H w :=
  ⟨h.below, h.size, fun i hi => h.fresh i (by rw [hn]; exact hi), fun i B hB => h.blk i B (by rw [hg]; exact hB), h.inj, h.lt⟩
theorem Step.like {σ σ' : Nat → Loc} {w w' : World} {H0 H H' : Heap} (h : Step σ H0 w σ' H' w') (hg : ∀ j, H'.get j = H.get j) (hn : H'.next = H.next) : Step σ H0 w σ' H w' :=
  ⟨by rw [← hn]; exact h.next, h.ext, h.new, h.frame, h.size, fun i hi h0 => ⟨(h.keep i hi h0).1, by rw [← hg]; exact (h.keep i hi h0).2⟩⟩
theorem DrawPost.like {N : Nat} {w0 w1 : World} {τ : Nat → Value} {m : Nat} {σ0 : Nat → Loc} {H0 : Heap} {st st' : St} {Q : Exit → Act → World → Prop} (hQ : DrawPost P N w0 τ m σ0 H0 w1 st Q)
    (ht : ∀ t, st'.tm.get t = st.tm.get t) (hg : ∀ j, st'.H.get j = st.H.get j) (hn : st'.H.next = st.H.next) (hd : st'.ds = st.ds) : DrawPost P N w0 τ m σ0 H0 w1 st' Q :=
  fun σ a w hH htm hds hsz hst => hQ σ a w (hH.like hg hn) (fun t v hv => htm t v (by rw [ht]; exact hv)) (by rw [← hd]; exact hds) hsz (hst.like hg hn)
theorem SI.like {N : Nat} {w0 w1 w : World} {τ : Nat → Value} {m : Nat} {tm0 tmF tmF' : Tr Value} {σ0 σ : Nat → Loc} {H0 G : Heap} {S : Nat → Prop} {done : Nat} {ds : List Deferred} {a : Act}
    (I : SI P N w0 τ ops b base m tm0 tmF σ0 H0 w1 S done G ds σ a w) (ht : ∀ t, tmF'.get t = tmF.get t) : SI P N w0 τ ops b base m tm0 tmF' σ0 H0 w1 S done G ds σ a w := by
  have hrho : ∀ i, rho ops b tm0 tmF' i = rho ops b tm0 tmF i := fun i => by
    funext y
    unfold rho
    cases y with
    | tmp t => simp only [ev, ht]
    | _ => rfl
  have hw : ∀ o, dwanted ops tmF' o = dwanted ops tmF o := fun o => by
    unfold dwanted
    simp only [ht]
  exact ⟨I.hH, fun t v => by rw [ht]; exact I.ta t v, I.dsr, I.sz, fun p o B mk h1 h2 h3 h4 h5 h6 => I.ex p o B mk h1 h2 h3 h4 (by rw [← hw]; exact h5) (by rw [← hrho]; exact h6), I.non, I.nob, I.nx, I.stp⟩
end
end Go.Hb
