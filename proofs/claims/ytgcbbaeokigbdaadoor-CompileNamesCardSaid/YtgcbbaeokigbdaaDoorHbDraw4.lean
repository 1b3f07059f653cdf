/- A region that draws: the simulation. -/
import Derived.Test.YtgcbbaeokigbdaaDoorHbDraw5
namespace Go.Hb
open Go Go.RowKit

theorem wpIn_of_run {F : Fence} {n : Nat} {P : Program} {o : Oper} {a : Act} {w w' : World} {K : Act → World → Prop} {Q : Exit → Act → World → Prop} {nx : Next} {v' : Value} (hF : ∀ f, F.fn f) (hnd : ∀ c, o.op ≠ .defer c)
    (hr : (execOp a.eval o).run P w = .ok nx w') (hx : nx = .value v' ∨ (nx = .skip ∧ v' = undef)) (hK : K (a.put o.dst v') w') : o.wpIn F n P a w K Q := by
  refine ⟨fun f _ => hF f, ?_⟩
  rw [Oper.semAt_eq _ _ _ hnd, hr]
  rcases hx with rfl | ⟨rfl, rfl⟩
  · rw [Oper.uponIn_value]; exact hK
  · rw [Oper.uponIn_skip]; exact hK

theorem not_defer {o : Oper} (h : isEff o = false) : ∀ c, o.op ≠ .defer c := by
  intro c hc
  unfold isEff at h
  rw [hc] at h
  cases h

section
variable {P : Program} {N : Nat} {w0 : World} {τ : Nat → Value} {ops : Array Oper} {b : Array Nat} {effs : List Nat} {F : Fence} {ok : Ok} {n : Nat} {x : Ctx} {base m : Nat} {tm0 : Tr Value} {σ0 : Nat → Loc} {H0 : Heap} {w1 : World} {Q : Exit → Act → World → Prop}

theorem left_lt {listed : Array Bool} {i fuel : Nat} (hl : listed.size = ops.size) (hi : i < ops.size) (hn : ¬ lst listed i)
    (h : ((List.range ops.size).filter fun j => !listed.getD j false).length ≤ fuel + 1) : ((List.range ops.size).filter fun j => !(listed.setIfInBounds i true).getD j false).length ≤ fuel := by
  have := filter_lt (p := fun j => !listed.getD j false) (q := fun j => !(listed.setIfInBounds i true).getD j false) (l := List.range ops.size) (i := i) (fun j hj => by
    have h1 : ¬ lst (listed.setIfInBounds i true) j := by unfold lst; simpa using hj
    rw [lst_set (by omega)] at h1
    have h2 : ¬ lst listed j := fun h => h1 (.inl h)
    unfold lst at h2
    simpa using h2) (List.mem_range.2 hi) (by unfold lst at hn; simpa using hn) (by
    have h1 : lst (listed.setIfInBounds i true) i := (lst_set (by omega)).2 (.inr rfl)
    unfold lst at h1
    simp [h1])
  omega

set_option maxHeartbeats 1000000 in
theorem draw_sim (R : RC ops b effs) (hF : ∀ f, F.fn f) (hτ : ∀ j, (τ j).oneCell' = true) (hok : ops.toList.all (okOper P.globals.size m) = true) (hE : EffLaw F P N w0 τ ok n x ops)
    (hg0 : GR P σ0) (hb0 : ∀ i, base ≤ i → H0.next ≤ i ∧ σ0 i = .none) :
    ∀ (fuel : Nat) (listed : Array Bool) (n' : Nat) (es : List Nat) (done : Nat) (G : Heap) (gs : List Heap) (tm : Tr Value) (ds : List Deferred) (σ : Nat → Loc) (a : Act) (w : World) (st : St), n' ≤ n →
    DrawPost P N w0 τ m σ0 H0 w1 st Q → es.Pairwise (· < ·) →
    ddraw P ok n' x ops b effs base es done (G :: gs) tm ds = some st → DI ops b effs tm0 es done tm gs.length → listed.size = ops.size → DS ops b (lst listed) → (∀ i, bit done i → lst listed i) → (∀ e ∈ es, ¬ lst listed e) →
    SI P N w0 τ ops b base m tm0 st.tm σ0 H0 w1 (lst listed) done G ds σ a w → ((List.range ops.size).filter fun i => !listed.getD i false).length ≤ fuel →
    wpAnyIn F 0 P .any ops Q fuel listed a w := by
  -- the end
  have fin : ∀ (listed : Array Bool) (n' : Nat) (es : List Nat) (done : Nat) (G : Heap) (gs : List Heap) (tm : Tr Value) (ds : List Deferred) (σ : Nat → Loc) (a : Act) (w : World) (st : St),
      DrawPost P N w0 τ m σ0 H0 w1 st Q → ddraw P ok n' x ops b effs base es done (G :: gs) tm ds = some st → DI ops b effs tm0 es done tm gs.length → (∀ i, i < ops.size → lst listed i) → DS ops b (lst listed) → (∀ e ∈ es, ¬ lst listed e) →
      SI P N w0 τ ops b base m tm0 st.tm σ0 H0 w1 (lst listed) done G ds σ a w → Q .normal a w := by
    intro listed n' es done G gs tm ds σ a w st hQ hd D hall hS hes I
    have hnil : es = [] := by
      cases es with
      | nil => rfl
      | cons e es =>
        obtain ⟨pre, hp, _⟩ := D.sfx
        obtain ⟨o, ho, _⟩ := R.mem_effs.1 (show e ∈ effs from hp.mem_iff.2 (by simp))
        exact absurd (hall e (lt_of_some ho)) (hes e (by simp))
    subst hnil
    obtain ⟨tm1, H1, hdn, hst⟩ := ddraw_nil hd
    have hfac := dnon_facts R (tmF := tm1) hdn rest_sorted D.ds (D.last R) (fun t _ => rfl) D.t0
    obtain ⟨_, ht0, l, hl1, hl2⟩ := hfac
    have htm : st.tm = tm1 := by rw [hst]
    have hH1 : st.H = H1 := by rw [hst]
    have hds : st.ds = ds := by rw [hst]
    simp only at hl1
    obtain ⟨k1, k2, _, _⟩ := adopts (P := P) (N := N) (w0 := w0) (τ := τ) (base := base) hb0 l G I.hH I.stp (fun p hp => by
      obtain ⟨q1, o, mk, q2, q3, q4, q5⟩ := hl2 p hp
      exact I.ex p.1 o p.2 mk (hall _ (lt_of_some q2)) (mem_rest.1 q1).2.1 q2 q3 (by rw [htm]; exact q4) (by rw [htm]; exact q5))
    rw [← hl1] at k1 k2
    refine hQ σ a w (by rw [hH1]; exact k1) (fun t v hv => ?_) (by rw [hds]; exact I.dsr) I.sz (by rw [hH1]; exact k2)
    by_cases hw : written ops (lst listed) t
    · exact (I.ta t v).1 hw hv
    · refine (I.ta t v).2 hw ?_
      rw [htm, ht0 t (fun hw' => hw (written_mono (fun i hi => ?_) hw'))] at hv
      · exact hv
      · rcases hi with hi | hi
        · exact hall i (D.ds i hi).1
        · exact hall i (mem_rest.1 hi).1
  intro fuel
  induction fuel with
  | zero =>
    intro listed n' es done G gs tm ds σ a w st hn hQ hso hd D hl hS hdS hes I hle
    have hall : ∀ i, i < ops.size → lst listed i := fun i hi => by
      have hnil : ((List.range ops.size).filter fun i => !listed.getD i false) = [] := List.eq_nil_of_length_eq_zero (by omega)
      have := (List.filter_eq_nil_iff.1 hnil) i (List.mem_range.2 hi)
      unfold lst; simpa using this
    refine ⟨?_, fin listed n' es done G gs tm ds σ a w st hQ hd D hall hS hes I⟩
    refine List.eq_nil_iff_forall_not_mem.2 fun i hi => ?_
    have := (mem_ready R hl hS).1 hi
    exact this.2.1 (hall i this.1)
  | succ fuel ih =>
    intro listed n' es0 done G gs tm ds σ a w st0 hn hQ0 hso0 hd0 D0 hl hS hdS hes0 I0 hle
    refine ⟨fun hr => fin listed n' es0 done G gs tm ds σ a w st0 hQ0 hd0 D0 (all_listed R hl hS hr) hS hes0 I0, fun i hi => ?_⟩
    obtain ⟨hiz, hil, hia⟩ := (mem_ready R hl hS).1 hi
    -- where the second of two stores comes first, the machine's run in that order
    have adapt : ∃ (st : St) (es : List Nat), DrawPost P N w0 τ m σ0 H0 w1 st Q ∧ ddraw P ok n' x ops b effs base es done (G :: gs) tm ds = some st ∧ DI ops b effs tm0 es done tm gs.length ∧ (∀ e ∈ es, ¬ lst listed e) ∧
        SI P N w0 τ ops b base m tm0 st.tm σ0 H0 w1 (lst listed) done G ds σ a w ∧ (∀ r, es = i :: r → r.Pairwise (· < ·)) ∧ (i ∈ es → ∃ r, es = i :: r) ∧ (i ∉ es → es.Pairwise (· < ·)) := by
      have hrs : ∀ r, es0 = i :: r → r.Pairwise (· < ·) := fun r hr => by rw [hr] at hso0; exact (List.pairwise_cons.1 hso0).2
      by_cases hie : i ∈ es0
      · cases es0 with
        | nil => cases hie
        | cons e r =>
          by_cases hei : i = e
          · exact ⟨st0, e :: r, hQ0, hd0, D0, hes0, I0, hrs, fun _ => ⟨r, by rw [hei]⟩, fun _ => hso0⟩
          · have hir : i ∈ r := (List.mem_cons.1 hie).resolve_left hei
            rcases chain_head D0.ord with h | ⟨f, rfl, h1, h2⟩
            · exact absurd (hia e (h i hir)) (hes0 e (by simp))
            · rw [List.mem_singleton] at hir
              subst hir
              have hb : ¬ anc b i e := fun h => hes0 e (by simp) (hia e h)
              have hlt : e < i := (List.pairwise_cons.1 hso0).1 i (by simp)
              obtain ⟨st', p, q, t1, t2, t3⟩ := ddraw_twin (by unfold anc at hb; simpa using hb) hlt hd0
              obtain ⟨s1, s2, s3, s4⟩ := twin_same R hd0 t1 D0 hb h1 h2 t2 t3
              refine ⟨st', [i, e], hQ0.like s1 s2 s3 s4, t1, D0.swap hb h1 h2, fun g hg => hes0 g (by simp at hg ⊢; exact hg.symm), I0.like s1, fun r hr => ?_, fun _ => ⟨[e], rfl⟩, fun h => absurd (by simp) h⟩
              cases hr
              exact List.pairwise_singleton _ _
      · exact ⟨st0, es0, hQ0, hd0, D0, hes0, I0, hrs, fun h => absurd h hie, fun _ => hso0⟩
    obtain ⟨st, es, hQ, hd, D, hes, I, hso1, hhead, hso2⟩ := adapt
    obtain ⟨o, ho⟩ := some_of_lt hiz
    have hg : GR P σ := hg0.ext I.stp.ext
    have hoko : okOper P.globals.size m o = true := List.all_eq_true.1 hok o (by have := Array.getElem?_eq_some_iff.1 ho; obtain ⟨h1, h2⟩ := this; rw [← h2]; exact Array.getElem_mem_toList h1)
    unfold okOper at hoko
    rw [Bool.and_eq_true] at hoko
    have hdm : ∀ d, o.dst = some d → d < m := fun d hd => by have := hoko.1; rw [hd] at this; simpa [Nat.blt_eq] using this
    have hop := I.opnd R hS hg ho hil hia hoko.2
    -- what is the same for every operation
    have hl' : (listed.setIfInBounds i true).size = ops.size := by simpa using hl
    have hset : ∀ j, lst (listed.setIfInBounds i true) j ↔ lst listed j ∨ j = i := fun j => lst_set (by omega)
    have hSeq : lst (listed.setIfInBounds i true) = fun j => lst listed j ∨ j = i := funext fun j => propext (hset j)
    have hS' : DS ops b (lst (listed.setIfInBounds i true)) := fun j hj => by
      rw [hset] at hj
      rcases hj with hj | rfl
      · exact ⟨(hS j hj).1, fun k hk => (hset k).2 (.inl ((hS j hj).2 k hk))⟩
      · exact ⟨hiz, fun k hk => (hset k).2 (.inl (hia k hk))⟩
    have hle' := left_lt (ops := ops) hl hiz hil hle
    have hwant : ∀ bb, dwanted ops st.tm o = some bb → Region.wanted o (yielded ops a.tmps) = bb := fun bb hw => by
      refine wanted_of (σ := σ) (τ := τ) (fun j want oj d v hgd hoj hdj hv => ?_) hw
      exact (I.ta d v).1 ⟨j, oj, hia j (R.guard i o j want ho hgd), hoj, hdj⟩ hv
    unfold wpOpIn
    rw [ho]
    simp only
    by_cases hie : i ∈ es
    · -- an effect: the first one that is left
      cases es with
      | nil => cases hie
      | cons e es =>
        obtain ⟨pre, hp, hpd, hk⟩ := D.sfx
        obtain ⟨r, hr⟩ := hhead hie
        have hso := hso1 r hr
        cases hr
        obtain ⟨n'', tm1, H1, o', v, ds1, H2, hlt', hdn, ho', hrest, hcase⟩ := ddraw_cons hd
        rw [ho] at ho'
        cases ho'
        obtain ⟨f1, f2⟩ := stage_final R D ho hrest
        obtain ⟨_, ht0, l, hl1, hl2⟩ := dnon_facts R (tmF := st.tm) hdn pending_sorted D.ds (D.pend R) f1 D.t0
        simp only at hl1
        have hlS : ∀ p ∈ l, lst listed p.1 ∧ ¬ bit done p.1 ∧ anc b i p.1 := fun p hp => by
          have := mem_pending.1 (hl2 p hp).1
          exact ⟨hia _ this.2.1, this.2.2.1, this.2.1⟩
        obtain ⟨k1, k2, k3, k4⟩ := adopts (P := P) (N := N) (w0 := w0) (τ := τ) (base := base) hb0 l G I.hH I.stp (fun p hp => by
          obtain ⟨q1, o2, mk, q2, q3, q4, q5⟩ := hl2 p hp
          exact I.ex p.1 o2 p.2 mk (hlS p hp).1 (hlS p hp).2.1 q2 q3 q4 q5)
        rw [← hl1] at k1 k2 k3 k4
        have hget1 : ∀ p, p < ops.size → ¬ bit (done ||| b.getD i 0 ||| 2 ^ i) p → H1.get (base + p) = none := fun p hp hb => by
          rw [k4 _ (fun q hq e => hb (by rw [bit_done1]; have : p = q.1 := by omega
                                         rw [this]; exact .inr (.inl (hlS q hq).2.2)))]
          exact I.nob p hp (fun h => hb (bit_done1.2 (.inl h)))
        have hdS' : ∀ j, bit (done ||| b.getD i 0 ||| 2 ^ i) j → lst (listed.setIfInBounds i true) j := fun j hj => by
          rw [hset]
          rcases bit_done1.1 hj with h | h | h
          · exact .inl (hdS j h)
          · exact .inl (hia j h)
          · exact .inr h
        have hes' : ∀ f ∈ es, ¬ lst (listed.setIfInBounds i true) f := fun f hf h => by
          rcases (hset f).1 h with h | rfl
          · exact hes f (List.mem_cons_of_mem _ hf) h
          · exact ((List.pairwise_cons.1 D.topo).1 f hf).1 rfl
        have D' := D.next R (stage_t0 R ho ht0 (v := v))
        have hTI : TI ops tm0 st.tm (fun j => bit done j ∨ j ∈ pending (List.range ops.size) effs (b.getD i 0) done) tm1 := fun t => ⟨f1 t, ht0 t⟩
        have hdsL : DS ops b (fun j => bit done j ∨ j ∈ pending (List.range ops.size) effs (b.getD i 0) done) := fun j hj => by
          rcases hj with hj | hj
          · exact ⟨(D.ds j hj).1, fun k hk => .inl ((D.ds j hj).2 k hk)⟩
          · exact ⟨((D.pend R) j hj).1, ((D.pend R) j hj).2.2.2⟩
        have hanc : ∀ j, anc b i j → bit done j ∨ j ∈ pending (List.range ops.size) effs (b.getD i 0) done := fun j hj => by
          by_cases hb : bit done j
          · exact .inl hb
          · refine .inr (mem_pending.2 ⟨by have := R.anc_lt _ _ hj; omega, hj, hb, fun hje => ?_⟩)
            rw [hp.mem_iff] at hje
            rcases List.mem_append.1 hje with hje | hje
            · exact hb (hpd j hje)
            · exact hes j hje (hia j hj)
        have hni : ¬ (bit done i ∨ i ∈ pending (List.range ops.size) effs (b.getD i 0) done) := by
          rintro (h | h)
          · exact hil (hdS i h)
          · have := R.anc_lt _ _ (mem_pending.1 h).2.1; omega
        have hwt : dwanted ops tm1 o = dwanted ops st.tm o := R.wanted hTI ho hanc
        have hρ := R.ev_rho hdsL hTI ho hni hanc
        -- the state behind it
        have next : ∀ (σ' : Nat → Loc) (a' : Act) (v' : Value) (w' : World), a'.tmps = a.tmps → VR σ' τ v v' → HR P N w0 τ σ' H2 w' → DsR σ' τ ds1 a'.defers → Step σ H1 w σ' H2 w' →
            wpAnyIn F 0 P .any ops Q fuel (listed.setIfInBounds i true) (a'.put o.dst v') w' := by
          intro σ' a' v' w' hta hvr hH' hdr hst'
          refine ih _ n'' es _ H2 (G :: gs) _ ds1 σ' _ w' st (by omega) hQ hso hrest D' hl' hS' hdS' hes' ?_ hle'
          refine ⟨hH', ?_, by rw [act_put_defers]; exact hdr, by rw [act_put_size, hta]; exact I.sz, fun p op B mk hpS hpd' hop' hal hwp hdal => ?_, fun p hp hpS => ?_, fun p hp hpd' => ?_, by have := hst'.next; have := I.nx; omega, k2.trans hst'⟩
          · rw [hSeq]
            exact I.slots R hst'.ext ho hil hdm (fun d v2 hd hv2 => by rw [f2 d hd] at hv2; cases hv2; exact hvr) hta
          · have hpi : p ≠ i := fun e => hpd' (bit_done1.2 (.inr (.inr e)))
            have hpS0 : lst listed p := ((hset p).1 hpS).resolve_right hpi
            have hnd : ¬ bit done p := fun h => hpd' (bit_done1.2 (.inl h))
            exact (I.ex p op B mk hpS0 hnd hop' hal hwp hdal).step k1 hst' (hget1 p (lt_of_some hop') hpd')
          · have hpS0 : ¬ lst listed p := fun h => hpS ((hset p).2 (.inl h))
            have hpb : ¬ bit (done ||| b.getD i 0 ||| 2 ^ i) p := fun h => hpS (hdS' p h)
            rw [(hst'.keep (base + p) (.inl (by have := I.nx; omega)) (hget1 p hp hpb)).1]
            exact I.non p hp hpS0
          · exact (hst'.keep (base + p) (.inl (by have := I.nx; omega)) (hget1 p hp hpd')).2
        rcases hcase with ⟨c1, rfl, rfl, rfl⟩ | ⟨c1, c2⟩
        · rw [hwant false (hwt ▸ c1)]
          simp only [Bool.false_eq_true, if_false]
          exact ⟨fun f _ => hF f, next σ a undef w rfl (.flat _ rfl) k1 I.dsr (Step.refl _ _ _)⟩
        · rw [hwant true (hwt ▸ c1)]
          simp only [if_true]
          refine hE n'' (by omega) o (ev tm1) ds H1 v ds1 H2 (by have := Array.getElem?_eq_some_iff.1 ho; obtain ⟨h1, h2⟩ := this; rw [← h2]; exact Array.getElem_mem h1) c2 a w σ _ Q (fun y hy => by rw [hρ y hy]; exact hop y hy) k1 I.dsr hg (fun σ' v' w' dfs' hv hH' hdr hst' => ?_)
          exact next σ' { a with defers := dfs' } v' w' rfl hv hH' hdr hst'
    · -- no effect
      obtain ⟨pre, hp, hpd, hk⟩ := D.sfx
      have hne : isEff o = false := by
        cases hx : isEff o with
        | false => rfl
        | true =>
          have := R.mem_effs.2 ⟨o, ho, hx⟩
          rw [hp.mem_iff] at this
          rcases List.mem_append.1 this with h | h
          · exact absurd (hdS i (hpd i h)) hil
          · exact absurd h hie
      have hso := hso2 hie
      have hnd : ¬ bit done i := fun h => hil (hdS i h)
      have hcnt : effsIn effs (b.getD i 0) ≤ gs.length := by
        unfold effsIn
        rw [(hp.filter _).length_eq, List.filter_append, List.length_append, ← hk]
        have : (es.filter fun e => (b.getD i 0).testBit e) = [] := List.filter_eq_nil_iff.2 fun e he hb => hes e he (hia e hb)
        rw [this]
        have := List.length_filter_le (fun e => (b.getD i 0).testBit e) pre
        simpa using this
      have hFN := ddraw_facts R hd D i o ho hne hnd [] G gs rfl hcnt
      have hdS' : ∀ j, bit done j → lst (listed.setIfInBounds i true) j := fun j hj => (hset j).2 (.inl (hdS j hj))
      have hes' : ∀ f ∈ es, ¬ lst (listed.setIfInBounds i true) f := fun f hf h => by
        rcases (hset f).1 h with h | rfl
        · exact hes f hf h
        · exact hie hf
      rcases hFN with ⟨c1, c2⟩ | ⟨c1, c2, B, mk, c3, c4⟩ | ⟨c1, c2, ρ, v, c3, c4, c5⟩
      · -- not wanted
        rw [hwant false c1]
        simp only [Bool.false_eq_true, if_false]
        refine ⟨fun f _ => hF f, ih _ n' es done G gs tm ds σ _ w st hn hQ hso hd D hl' hS' hdS' hes' ?_ hle'⟩
        refine ⟨I.hH, ?_, by rw [act_put_defers]; exact I.dsr, by rw [act_put_size]; exact I.sz, fun p op B mk hpS hpd' hop' hal hwp hdal => ?_, fun p hp hpS => I.non p hp (fun h => hpS ((hset p).2 (.inl h))), I.nob, I.nx, I.stp⟩
        · rw [hSeq]
          exact I.slots R (Ext.refl σ) ho hil hdm (fun d v2 hd hv2 => by rw [c2 d hd] at hv2; cases hv2; exact .flat _ rfl) rfl
        · rcases (hset p).1 hpS with h | rfl
          · exact I.ex p op B mk h hpd' hop' hal hwp hdal
          · rw [ho] at hop'; cases hop'; rw [c1] at hwp; cases hwp
      · -- a block is made
        rw [hwant true c1]
        simp only [if_true]
        obtain ⟨v', ob, Sz, es1, hrun, hall⟩ := dalloc_sound (w := w) I.hH.size hτ hop c2 c3
        have hnn := I.non i hiz hil
        have hlt : base + i < G.next := by have := I.nx; omega
        have hH' := I.hH.extra ob Sz es1 hlt hnn
        have hb := hb0 (base + i) (Nat.le_add_right _ _)
        have he : Ext σ (upd σ (base + i) (.live w.heap.size Sz es1)) := fun j => by
          by_cases hj : j = base + i
          · rw [hj]; exact .inl hnn
          · exact .inr (.inl (upd_other _ _ hj))
        obtain ⟨hvr, hbr⟩ := hall _ (base + i) he (upd_same _ _ _)
        refine wpIn_of_run hF (not_defer hne) hrun (.inl rfl) (ih _ n' es done G gs tm ds (upd σ (base + i) (.live w.heap.size Sz es1)) _ _ st hn hQ hso hd D hl' hS' hdS' hes' ?_ hle')
        refine ⟨hH', ?_, by rw [act_put_defers]; exact I.dsr.ext he, by rw [act_put_size]; exact I.sz, fun p op B2 mk2 hpS hpd' hop' hal hwp hdal => ?_, fun p hp hpS => ?_, I.nob, I.nx, I.stp.extra ob Sz es1 hb.1 hb.2⟩
        · rw [hSeq]
          exact I.slots R he ho hil hdm (fun d v2 hd hv2 => by rw [c4 d hd] at hv2; cases hv2; exact hvr) rfl
        · rcases (hset p).1 hpS with h | rfl
          · have hpi : p ≠ i := fun e => hil (e ▸ h)
            have hB := I.ex p op B2 mk2 h hpd' hop' hal hwp hdal
            rw [upd_other _ _ (by omega)]
            have hlt2 := I.hH.lt
            exact (hB.ext he).world fun c S' es' hc => Below.heap_alloc w _ c (hlt2 (base + p) c S' es' hc)
          · rw [ho] at hop'
            cases hop'
            rw [c3] at hdal
            cases hdal
            rw [upd_same]; exact hbr
        · rw [hset] at hpS
          have hpi : p ≠ i := fun e => hpS (.inr e)
          rw [upd_other _ _ (by omega)]
          exact I.non p hp fun h => hpS (.inl h)
      · -- a value
        rw [hwant true c1]
        simp only [if_true]
        obtain ⟨nx, w', σ', v', hrun, hnx, hvr, hH', hst'⟩ := dop_sound I.hH hτ (fun y hy => by rw [c3 y hy]; exact hop y hy) c4
        refine wpIn_of_run hF (not_defer hne) hrun hnx (ih _ n' es done G gs tm ds σ' _ w' st hn hQ hso hd D hl' hS' hdS' hes' ?_ hle')
        have hlow : ∀ p, p < ops.size → ¬ bit done p → (base + p < G.next ∨ σ (base + p) ≠ .none) := fun p hp _ => .inl (by have := I.nx; omega)
        refine ⟨hH', ?_, by rw [act_put_defers]; exact I.dsr.ext hst'.ext, by rw [act_put_size]; exact I.sz, fun p op B2 mk2 hpS hpd' hop' hal hwp hdal => ?_, fun p hp hpS => ?_, I.nob, I.nx, I.stp.trans hst'⟩
        · rw [hSeq]
          exact I.slots R hst'.ext ho hil hdm (fun d v2 hd hv2 => by rw [c5 d hd] at hv2; cases hv2; exact hvr) rfl
        · rcases (hset p).1 hpS with h | rfl
          · exact (I.ex p op B2 mk2 h hpd' hop' hal hwp hdal).step I.hH hst' (I.nob p (lt_of_some hop') hpd')
          · rw [ho] at hop'; cases hop'; rw [c2] at hal; cases hal
        · rw [hset] at hpS
          have hpS0 : ¬ lst listed p := fun h => hpS (.inl h)
          rw [(hst'.keep (base + p) (hlow p hp (fun h => hpS0 (hdS p h))) (I.nob p hp (fun h => hpS0 (hdS p h)))).1]
          exact I.non p hp hpS0
end
end Go.Hb
