import Derived.Test.YtlmjnikipfbenaaGreatDoorM2
import Derived.RowKit3
import Derived.ChangeSame
import Derived.Carry
import Derived.OpenShut
import Derived.ProofKit
import Derived.IntWalk
import Derived.BigFrame
import Derived.Lib.ValidLaws
import Derived.DataReads
/- Lemmas on the program's own code, towards the laws of this folder, part 3. Conditions: as each lemma says. -/
-- Snd5
section
namespace Go.Hb
open Go Go.RowKit
section
variable {P : Program} {N : Nat} {w0 : World} {τ : Nat → Value} {ok : Ok} {n : Nat}
theorem FRel.round {x : Ctx} {F : Fence} (h : FRel x F) (hx : x.round = none) : F = Fence.wide := by
  rcases h with ⟨_, h⟩ | ⟨h, _⟩
  · exact h
  · exact absurd hx h
theorem HR.bump {σ : Nat → Loc} {H : Heap} {w : World} (h : HR P N w0 τ σ H w) (k : Nat) : HR P N w0 τ σ ⟨H.next + k, H.t⟩ w :=
  ⟨h.below, h.size, fun i hi => h.fresh i (by have : H.next + k ≤ i := hi; omega), h.blk, h.inj, h.lt⟩
theorem HR.get_none {σ : Nat → Loc} {H : Heap} {w : World} (h : HR P N w0 τ σ H w) {i : Nat} (hi : H.next ≤ i) : H.get i = none := by
  cases hg : H.get i with
  | none => rfl
  | some B => have := h.get_lt hg; omega
theorem lst_none {n i : Nat} : ¬ lst (Array.replicate n false) i := by
  unfold lst
  rw [Array.getD_eq_getD_getElem?, Array.getElem?_replicate]
  split <;> simp
theorem draw_run (hτ : ∀ j, (τ j).oneCell' = true) (hm : P.follows .mixedOrders = true) {x id ops st st' m a w σ F} (Q : Exit → Act → World → Prop) {Z : Prop} {B : Oper → (Operand → Value) → List Deferred → Heap → Prop} {effs : List Nat}
    (heffs : effs = (List.range ops.size).filter fun i => match ops[i]? with | some o => isEff o | none => false) (hE : EffLaw F P N w0 τ ok n x ops m st.tm σ st.H w Q Z B)
    (h : ddraw P ok n x ops (Region.before ops) effs st.H.next effs 0 [⟨st.H.next + ops.size, st.H.t⟩] st.tm st.ds = some st')
    (hok : ops.toList.all (okOper P.globals.size m) = true) (hdr : okDraw ops = true) (hs : SR P N w0 τ σ st m a w) (hF : ∀ f, F.fn f) (hQ : Z → DrawPost P N w0 τ m σ st.H w st' Q)
    (hZ : HZ Z B P ops (Region.before ops) effs st.H.next effs 0 ⟨st.H.next + ops.size, st.H.t⟩ [] st.tm st.ds) : (Code.region id ops true).wpIn F 0 P Q a w := by
  subst heffs
  have R := RC.of_ok hdr
  refine wpIn_region_any hm ?_
  have hdrew : ({ w with drawn := w.drawn + 1 } : World) = w.drew := rfl
  rw [hdrew]
  refine draw_sim (N := N) (w0 := w0) (n := n) (x := x) (m := m) (tm0 := st.tm) (σ0 := σ) (H0 := st.H) (w1 := w) R hF hτ hok hE hs.gr (fun i hi => ⟨hi, hs.hH.fresh i hi⟩) ops.size (Array.replicate ops.size false) n _ 0 _ [] st.tm st.ds σ a w.drew st' (Nat.le_refl _) hQ hZ R.sorted h ?_ (by simp) ?_ ?_ ?_ ?_ ?_
  · exact ⟨fun i hi => by simp [bit] at hi, ⟨[], List.Perm.refl _, fun e he => (by cases he), rfl⟩, R.chain, R.topo R.sorted, fun e _ he => by simp [bit] at he, fun t _ => rfl⟩
  · intro i hi; exact absurd hi lst_none
  · intro i hi; simp [bit] at hi
  · intro e _ he; exact absurd he lst_none
  · refine ⟨hs.hH.drew.bump _, fun t v => ⟨fun hw => ?_, fun _ hv => hs.tm t v hv⟩, hs.ds, hs.sz, fun p o B mk hp => absurd hp lst_none, fun p _ _ => hs.hH.fresh _ (Nat.le_add_right _ _), fun p _ _ => hs.hH.get_none (Nat.le_add_right _ _), Nat.le_refl _, ?_⟩
    · obtain ⟨p, _, hp, _⟩ := hw; exact absurd hp lst_none
    · exact ⟨Nat.le_add_right _ _, Ext.refl σ, fun i b S es hi => .inr (.inl ⟨S, es, hi⟩), fun _ _ _ => rfl, Nat.le_refl _, fun i _ hg => ⟨rfl, hg⟩⟩
  · have := List.length_filter_le (fun i => !(Array.replicate ops.size false).getD i false) (List.range ops.size)
    simpa using this
theorem draw_step (hτ : ∀ j, (τ j).oneCell' = true) (hm : P.follows .mixedOrders = true) (hE : ∀ k, k < n → All P N w0 τ ok k) {x id ops st st' m a w σ F} (Q : Exit → Act → World → Prop)
    (h : ddraw P ok n x ops (Region.before ops) ((List.range ops.size).filter fun i => match ops[i]? with | some o => isEff o | none => false) st.H.next
      ((List.range ops.size).filter fun i => match ops[i]? with | some o => isEff o | none => false) 0 [⟨st.H.next + ops.size, st.H.t⟩] st.tm st.ds = some st')
    (hok : ops.toList.all (okOper P.globals.size m) = true) (hdr : okDraw ops = true) (hs : SR P N w0 τ σ st m a w) (hF : FRel x F) (hQ : Cont P N w0 τ σ st.H w .normal st' m Q) : (Code.region id ops true).wpIn F 0 P Q a w := by
  refine draw_run (Z := True) (B := fun _ _ _ _ => False) hτ hm Q rfl ?_ h hok hdr hs hF.fn ?_ (.inl trivial)
  · intro n' hn' o ρ ds H v ds1 H1 _ _ hd a w σ K hρ hH hds hg _ hK
    exact (hE n' hn').op1 K Q hd hρ hH hds hg hF (hK trivial)
  · intro _ σ' a' w' hH' htm hds' hsz hst
    exact hQ .normal a' w' σ' trivial ⟨hH', htm, hds', hsz, hs.gr.ext hst.ext⟩ hst
theorem dval {o : Option Heap} {r : Dr} (h : o.map (Dr.val undef ·) = some r) : ∃ v H, r = .val v H := by
  cases o with
  | none => cases h
  | some H => cases h; exact ⟨_, _, rfl⟩
theorem dupdate_val {t : TypeId} {m k v : Value} {H : Heap} {r : Dr} (h : dupdate P t m k v H = some r) : ∃ v H, r = .val v H := by
  unfold dupdate at h
  repeat' (split at h)
  all_goals first | (cases h; exact ⟨_, _, rfl⟩) | cases h
theorem dappend_val {ts : Array TypeId} {s x : Value} {H : Heap} {r : Dr} (h : dappend P ts s x H = some r) : ∃ v H, r = .val v H := by
  unfold dappend at h
  repeat' (first | split at h | (simp only at h; split at h))
  all_goals first | (cases h; exact ⟨_, _, rfl⟩) | cases h
theorem dzeros_val {t xt : TypeId} {s x : Value} {H : Heap} {r : Dr} (h : dzeros P t xt s x H = some r) : ∃ v H, r = .val v H := by
  unfold dzeros at h
  repeat' (split at h)
  all_goals first | (cases h; exact ⟨_, _, rfl⟩) | cases h
theorem mild_val {ops : Array Oper} {e : Nat} {o : Oper} {ρ : Operand → Value} {H : Heap} {r : Dr} (hm : mild ops e = true) (ho : ops[e]? = some o) (h : dop P o ρ H = some r) : ∃ v H, r = .val v H := by
  unfold mild at hm
  rw [ho] at hm
  obtain ⟨dst, op, ty, pos, af, g⟩ := o
  cases op with
  | store t a x =>
    unfold dop at h
    simp only at h
    split at h
    · split at h
      · exact dval h
      · cases h
    · cases h
  | mapUpdate t m k x => unfold dop at h; exact dupdate_val h
  | insert t m k x => unfold dop at h; exact dupdate_val h
  | call c =>
    obtain ⟨cl, as, ats⟩ := c
    cases cl with
    | builtin bb =>
      cases bb with
      | append =>
        unfold dop at h
        simp only at h
        split at h <;> first | contradiction | skip
        split at h
        · split at h
          · rename_i hz; cases h; exact dzeros_val hz
          · exact dappend_val h
        · cases h
      | _ => simp at hm
    | _ => simp at hm
  | _ => simp at hm
theorem dop1_mild {ok ok' : Ok} {ops : Array Oper} {e : Nat} {o : Oper} (hm : mild ops e = true) (ho : ops[e]? = some o) (n : Nat) (x : Ctx) (ρ : Operand → Value) (ds : List Deferred) (H : Heap) : dop1 P ok n x o ρ ds H = dop1 P ok' n x o ρ ds H := by
  cases n with
  | zero => rw [dop1, dop1]
  | succ n =>
    rw [dop1, dop1]
    cases hd : dop P o ρ H with
    | none => rfl
    | some r =>
      obtain ⟨v, H', rfl⟩ := mild_val hm ho hd
      rfl
theorem ddraw_mild {ok ok' : Ok} {x : Ctx} {ops : Array Oper} {b : Array Nat} {effs : List Nat} {base : Nat} : ∀ (n : Nat) (es : List Nat) (done : Nat) (hs : List Heap) (tm : Tr Value) (ds : List Deferred), es.all (mild ops) = true →
    ddraw P ok n x ops b effs base es done hs tm ds = ddraw P ok' n x ops b effs base es done hs tm ds ∧ dstage P ok n x ops b effs base es done hs tm ds = dstage P ok' n x ops b effs base es done hs tm ds
  | 0, es, done, hs, tm, ds, _ => ⟨by rw [ddraw, ddraw], by rw [dstage, dstage]⟩
  | n + 1, es, done, hs, tm, ds, hm => by
    constructor
    · rw [ddraw, ddraw]
      cases ht : twin b es with
      | none => exact (ddraw_mild n es done hs tm ds hm).2
      | some p =>
        obtain ⟨e, f⟩ := p
        obtain ⟨rfl, _, _⟩ := twin_inv ht
        have hm2 : [f, e].all (mild ops) = true := by
          simp only [List.all_cons, List.all_nil, Bool.and_true, Bool.and_eq_true] at hm ⊢
          exact ⟨hm.2, hm.1⟩
        simp only [(ddraw_mild (ok := ok) (ok' := ok') (x := x) (b := b) (effs := effs) (base := base) n [e, f] done hs tm ds hm).2, (ddraw_mild (ok := ok) (ok' := ok') (x := x) (b := b) (effs := effs) (base := base) n [f, e] done hs tm ds hm2).2]
    · unfold dstage
      cases hs with
      | nil => rfl
      | cons G gs =>
        cases es with
        | nil => rfl
        | cons e es =>
          simp only
          rw [List.all_cons, Bool.and_eq_true] at hm
          cases hd : dnon P ops b effs base (G :: gs) (pending (List.range ops.size) effs (b.getD e 0) done) tm G with
          | none => rfl
          | some p =>
            obtain ⟨tm1, H1⟩ := p
            simp only
            cases ho : ops[e]? with
            | none => rfl
            | some o =>
              simp only
              cases hw : dwanted ops tm1 o with
              | none => rfl
              | some bb =>
                cases bb with
                | false => exact (ddraw_mild n es _ _ _ _ hm.2).1
                | true =>
                  simp only [dop1_mild (ok := ok) (ok' := ok') hm.1 ho]
                  cases h1 : dop1 P ok' n x o (ev tm1) ds H1 with
                  | none => rfl
                  | some r =>
                    cases r with
                    | val v ds1 H2 => exact (ddraw_mild n es _ _ _ _ hm.2).1
                    | panic _ _ => rfl
def okAny (z : Value) : Ok := ⟨0, fun _ _ H => some (.ret z, H)⟩
theorem call_noSt {ops : Array Oper} {e : Nat} {o : Oper} {ρ : Operand → Value} {H : Heap} {f : FuncId} {args : List Value} (ho : ops[e]? = some o) (h : dop P o ρ H = some (.call f args)) : isSt ops e = false := by
  cases hs : isSt ops e with
  | false => rfl
  | true =>
    exfalso
    unfold isSt at hs
    rw [ho] at hs
    simp only [Bool.and_eq_true] at hs
    have h3 := hs.2
    obtain ⟨dst, op, ty, pos, af, g⟩ := o
    cases op with
    | store t a y =>
      unfold dop at h
      simp only at h
      split at h
      · split at h
        · obtain ⟨_, _, h⟩ := dval h; cases h
        · cases h
      · cases h
    | _ => simp at h3
theorem foldl_clr {t : Tmp} {v : Value} : ∀ (l : List Oper) (tm : Tr Value), (l.foldl (fun t o => match o.dst with | some d => t.put d none | none => t) tm).get t = some v → (∀ o ∈ l, o.dst ≠ some t) ∧ tm.get t = some v
  | [], tm, h => ⟨fun _ h => (by cases h), h⟩
  | o :: l, tm, h => by
    rw [List.foldl_cons] at h
    obtain ⟨h1, h2⟩ := foldl_clr l _ h
    cases hd : o.dst with
    | none =>
      rw [hd] at h2
      exact ⟨fun o' ho' => by rcases List.mem_cons.1 ho' with rfl | ho'; (· rw [hd]; simp); exact h1 o' ho', h2⟩
    | some d =>
      rw [hd] at h2
      simp only at h2
      rw [Tr.get_put] at h2
      split at h2
      · cases h2
      · rename_i hne
        exact ⟨fun o' ho' => by rcases List.mem_cons.1 ho' with rfl | ho'; (· rw [hd]; intro h; cases h; exact hne rfl); exact h1 o' ho', h2⟩
theorem clr_get {ops : Array Oper} {tm : Tr Value} {t : Tmp} {v : Value} (h : (clr ops tm).get t = some v) : (∀ (i : Nat) (o : Oper), ops[i]? = some o → o.dst ≠ some t) ∧ tm.get t = some v := by
  obtain ⟨h1, h2⟩ := foldl_clr _ _ h
  exact ⟨fun i o ho => h1 o (by obtain ⟨k1, k2⟩ := Array.getElem?_eq_some_iff.1 ho; rw [← k2]; exact Array.getElem_mem_toList k1), h2⟩
theorem dpan_inv {call : FuncId → List Value → Heap → Option (En × Heap)} {draw : List Nat → Nat → List Heap → Tr Value → Option St} {ops : Array Oper} {b : Array Nat} {effs : List Nat} {base : Nat} {G : Heap} {tm : Tr Value} {ch : List PanicEntry} {H2 : Heap}
    (h : dpan P call draw ops b effs base G tm = some (ch, H2)) :
    ∃ e es tm1 H1 o f args st1, effs = e :: es ∧ dnon P ops b effs base [G] (pending (List.range ops.size) effs (b.getD e 0) 0) tm G = some (tm1, H1) ∧ ops[e]? = some o ∧ dwanted ops tm1 o = some true ∧ dop P o (ev tm1) H1 = some (.call f args) ∧
      es.all (mild ops) = true ∧ call f args H1 = some (.panic ch, H2) ∧ draw es (0 ||| b.getD e 0 ||| 2 ^ e) [H1, G] (putD tm1 o.dst (dmight P f)) = some st1 := by
  unfold dpan at h
  split at h
  · cases h
  rename_i e es
  split at h
  · cases h
  rename_i tm1 H1 hdn
  split at h
  · cases h
  rename_i o ho
  split at h
  · rename_i f args hw hd hm
    split at h
    · rename_i ch' H2' st1 hc hr
      cases h
      refine ⟨e, es, tm1, H1, o, f, args, st1, rfl, hdn, ho, hw, hd, hm, hc, ?_⟩
      rw [← hr]
      cases o.dst <;> rfl
    · cases h
  · cases h
theorem pan_step (hτ : ∀ j, (τ j).oneCell' = true) (hm : P.follows .mixedOrders = true) (A : All P N w0 τ ok n) {x id ops st m a w σ F} {ch : List PanicEntry} {H2 : Heap} (Q : Exit → Act → World → Prop)
    (h : dpan P (dcall P ok n) (fun es done hs tm => ddraw P ok n x ops (Region.before ops) ((List.range ops.size).filter fun i => match ops[i]? with | some o => isEff o | none => false) st.H.next es done hs tm st.ds) ops (Region.before ops)
      ((List.range ops.size).filter fun i => match ops[i]? with | some o => isEff o | none => false) st.H.next ⟨st.H.next + ops.size, st.H.t⟩ st.tm = some (ch, H2))
    (hok : ops.toList.all (okOper P.globals.size m) = true) (hdr : okDraw ops = true) (hs : SR P N w0 τ σ st m a w) (hF : FRel x F) (hQ : Cont P N w0 τ σ st.H w (.panic ch) ⟨clr ops st.tm, st.ds, H2⟩ m Q) : (Code.region id ops true).wpIn F 0 P Q a w := by
  have R := RC.of_ok hdr
  generalize he : ((List.range ops.size).filter fun i => match ops[i]? with | some o => isEff o | none => false) = effs at h R
  obtain ⟨e, es, tm1, H1, o, f, args, st1, hee, hdn, ho, hw, hd, hmild, hc, hr⟩ := dpan_inv h
  have hns := call_noSt ho hd
  have hn : ∃ k, n = k + 2 := by
    match n, hr with
    | 0, hr => rw [ddraw] at hr; cases hr
    | 1, hr =>
      exfalso
      rw [ddraw] at hr
      split at hr
      · rw [dstage] at hr; cases hr
      · rw [dstage] at hr; cases hr
    | k + 2, _ => exact ⟨k, rfl⟩
  have htw : twin (Region.before ops) effs = none := by
    have hch := R.chain
    rw [hee] at hch ⊢
    rcases chain_head hch with h | ⟨g, rfl, h1, _⟩
    · cases es with
      | nil => rfl
      | cons g gs =>
        cases gs with
        | nil =>
          have h1 : ((Region.before ops).getD g 0).testBit e = true := h g (by simp)
          unfold twin
          simp only [h1, Bool.true_or]
        | cons _ _ => rfl
    · rw [h1] at hns; cases hns
  have hrun : ddraw P (okAny (dmight P f)) (n + 2) x ops (Region.before ops) effs st.H.next effs 0 [⟨st.H.next + ops.size, st.H.t⟩] st.tm st.ds = some st1 := by
    rw [ddraw, htw]
    simp only
    unfold dstage
    generalize hq : effs = E at hee ⊢
    subst hee
    subst hq
    simp only [hdn, ho, hw]
    obtain ⟨k, rfl⟩ := hn
    have h1 : dop1 P (okAny (dmight P f)) (k + 2) x o (ev tm1) st.ds H1 = some (.val (dmight P f) st.ds H1) := by
      rw [dop1, hd]
      simp only
      rw [dcall]
      rfl
    rw [h1]
    simp only
    rw [(ddraw_mild (ok := okAny (dmight P f)) (ok' := ok) (k + 2) es _ _ _ _ hmild).1, ← hr]
    cases o.dst <;> rfl
  refine draw_run (Z := False) (B := fun o' ρ ds H => dop P o' ρ H = some (.call f args) ∧ ds = st.ds ∧ H = H1) (n := n + 2) (ok := okAny (dmight P f)) hτ hm Q he.symm ?_ hrun hok hdr hs hF.fn (fun h => h.elim) (.inr ⟨e, es, tm1, H1, o, hee, hns, ho, hdn, hw, hd, rfl, rfl⟩)
  intro n' _ o' ρ ds H v ds1 H1' _ hB _ a w σ' K hρ hH hds hg hseen _
  obtain ⟨hdo, rfl, rfl⟩ := hB.resolve_left (fun h => h)
  have h1 : dop1 P ok (n + 1) x o' ρ st.ds H = some (.panic ch H2) := by rw [dop1, hdo]; simp only [hc]
  refine op1_step hτ A K Q h1 hρ hH hds hg hF ?_
  intro σ2 ch' w2 hch hH2 hst2
  refine hQ (.panic ch') a w2 σ2 hch ⟨hH2, fun t v hv => ?_, hds.ext hst2.ext, hseen.sz, hg.ext hst2.ext⟩ (hseen.stp.trans hst2)
  obtain ⟨hv1, hv2⟩ := clr_get hv
  exact (hseen.tm t v hv1 hv2).ext hst2.ext
theorem enter_sound {σ : Nat → Loc} {H : Heap} {w : World} (hH : HR P N w0 τ σ H w) {tm : Tr Value} (L : Loop) (htm : TmR σ τ tm L.tmps) {ps : List Tmp} {as bo : Code} {m : Nat} {fnx : FuncId} (hL1 : L.state = .ready) (hL2 : L.pending = none)
    (hL3 : L.params.toList = ps) (hL4 : L.assign = as) (hL5 : L.body = bo) (hsz : m ≤ L.tmps.size) (hok3 : okCode P.globals.size m as = true) (hok4 : okCode P.globals.size m bo = true) (hps : ∀ t ∈ ps, t < m) :
    ∃ σ2, HR P N w0 τ σ2 ((H.new (some .dfr)).new (some (.loop .ready none fnx tm ps as bo H.next))) ((w.alloc (.deferred (some []))).alloc (.loop L)) ∧
      Step σ H w σ2 ((H.new (some .dfr)).new (some (.loop .ready none fnx tm ps as bo H.next))) ((w.alloc (.deferred (some []))).alloc (.loop L)) ∧
      σ2 H.next = .live w.heap.size 0 0 ∧ σ2 (H.new (some .dfr)).next = .live (w.heap.size + 1) 0 0 := by
  obtain ⟨hH1, hst1⟩ := hH.alloc (w' := w.alloc (.deferred (some []))) (B := .dfr) (S := 0) (es := 0) rfl rfl rfl (by simp) (fun k hk => Below.heap_alloc w _ k hk)
    (.dfr _ _ _ hH.size (by show (w.heap.push _)[w.heap.size]? = _; simp))
  have hsz' : (w.alloc (.deferred (some []))).heap.size = w.heap.size + 1 := by simp
  have htm1 := htm.ext hst1.ext
  have hN := hH.size
  obtain ⟨hH2, hst2⟩ := hH1.alloc (w' := (w.alloc (.deferred (some []))).alloc (.loop L))
    (B := .loop .ready none fnx tm ps as bo H.next) (S := 0) (es := 0) rfl rfl rfl (by simp) (fun k hk => Below.heap_alloc _ _ k hk)
    (.loop _ _ _ _ _ _ _ _ _ _ _ m L (by omega)
      (by show ((w.alloc (.deferred (some []))).heap.push _)[(w.alloc (.deferred (some []))).heap.size]? = _; exact Array.getElem?_push_size) hL1 hL2 hL3 hL4 hL5 (htm1.ext (hH1.ext_new _)) hsz hok3 hok4 hps (.inl rfl))
  refine ⟨_, hH2, hst1.trans hst2, ?_, ?_⟩
  · have hne : H.next ≠ (H.new (some .dfr)).next := Nat.ne_of_lt (Nat.lt_succ_self _)
    rw [upd_other _ _ hne, upd_same]
  · rw [upd_same, hsz']
theorem run_enterLoop (fnid : FuncId) (tmps : Array Value) (ps : Array Tmp) (as bo : Code) (w : World) :
    (Instr.enterLoop fnid tmps ps as bo none).run P w = .ok (w.heap.size + 1, [{ target := .collected w.heap.size, args := #[] }])
      ((w.alloc (.deferred (some []))).alloc (.loop { state := .ready, pending := none, fn := fnid, tmps := tmps, params := ps, assign := as, body := bo, defers := w.heap.size })) := by
  have hsz : (w.alloc (.deferred (some []))).heap.size = w.heap.size + 1 := by simp
  simp [Instr.enterLoop, Sem.run_bind, hsz]
theorem run_endLoop {w : World} {b : Nat} {L : Loop} (h : w.heap[b]? = some (.loop L)) (hb : L.state ≠ .busy) :
    (Instr.endLoop b).run P w = .ok L.pending { w with heap := w.heap.setIfInBounds b (.loop { L with state := .exhausted }) } := by
  simp [Instr.endLoop, Sem.run_bind, run_getLoop h, hb, run_setLoop h]
theorem run_rangeCall {a : Act} {f : Operand} {g : FuncId} {x y : Array Value} (l : Nat) (h : a.eval f = .func (.func g) x y) (w : World) :
    (resolve a.eval (rangeCall f l) 0).run P w = .ok { target := .fn (.func g) y, args := x ++ #[.func (.yield l) #[] #[]] } w := by
  have hc : a.eval (.const (.func (.yield l) #[] #[])) = .func (.yield l) #[] #[] := rfl
  simp [rangeCall, resolve, h, hc, Deferred.ofValue, Sem.run_bind]
theorem range_step (A : All P N w0 τ ok n) {x : Ctx} {f : Operand} {ps : Array Tmp} {as bo : Code} {st st' : St} {ex : Ex} {m : Nat} {a : Act} {w : World} {σ : Nat → Loc} (Q : Exit → Act → World → Prop)
    (hok1 : okOpnd P.globals.size f = true) (hok2 : ∀ t ∈ ps.toList, t < m) (hok3 : okCode P.globals.size m as = true) (hok4 : okCode P.globals.size m bo = true) (hs : SR P N w0 τ σ st m a w) (hF : FRel x Fence.wide)
    {g : FuncId} {first captured : Array Value} (hv : ev st.tm f = .func (.func g) first captured) {d1 : Dr} (hd1 : dcall1 P g [] = some d1) {v : Value} {H3 : Heap}
    (hc : dcall P ok n g (first.toList ++ [.func (.yield (st.H.new (some .dfr)).next) #[] #[]] ++ captured.toList) ((st.H.new (some .dfr)).new (some (.loop .ready none x.fn st.tm ps.toList as bo st.H.next))) = some (.ret v, H3))
    {s : LoopState} {pend : Option Code} {fn3 : FuncId} {tm3 : Tr Value} {ps3 : List Tmp} {as3 bo3 : Code} {dd3 : Nat} (hg3 : H3.get (st.H.new (some .dfr)).next = some (.loop s pend fn3 tm3 ps3 as3 bo3 dd3)) (hnb : s ≠ .busy)
    (h : (match (generalizing := false) pend with
      | none => some (Ex.normal, (⟨st.tm, { target := .collected st.H.next, args := #[] } :: st.ds, H3.put (st.H.new (some .dfr)).next (some (.loop .exhausted pend fn3 tm3 ps3 as3 bo3 dd3))⟩ : St))
      | some c => dcode P ok n x c ⟨st.tm, { target := .collected st.H.next, args := #[] } :: st.ds, H3.put (st.H.new (some .dfr)).next (some (.loop .exhausted pend fn3 tm3 ps3 as3 bo3 dd3))⟩) = some (ex, st'))
    (hQ : Cont P N w0 τ σ st.H w ex st' m Q) : (Code.rangeFunc f ps as bo).wpIn Fence.wide 0 P Q a w := by
  have hy := opnd hs.tm hs.gr hok1
  rw [hv] at hy
  obtain ⟨first', captured', e1, hf, hcap⟩ := hy.func_inv
  obtain ⟨_, hcallf⟩ := dcall1_sound hd1
  refine wpIn_rangeFunc fun fnid _ => ?_
  obtain ⟨σ2, hH2, hst2, hσd, hσl⟩ := enter_sound hs.hH (tm := st.tm) (fnx := x.fn) (m := m) { state := .ready, pending := none, fn := fnid, tmps := a.tmps, params := ps, assign := as, body := bo, defers := w.heap.size } hs.tm rfl rfl rfl rfl rfl hs.sz hok3 hok4 hok2
  have hbr : BR σ2 (st.H.new (some .dfr)).next (w.heap.size + 1) := by unfold BR; rw [hσl]
  have hargs : LR σ2 τ (first.toList ++ [Value.func (.yield (st.H.new (some .dfr)).next) #[] #[]] ++ captured.toList) (first' ++ #[Value.func (.yield (w.heap.size + 1)) #[] #[]] ++ captured').toList := by
    simp only [Array.toList_append]
    exact LR.append (LR.append (hf.ext hst2.ext) (LR.cons (.yield _ _ hbr) LR.nil)) (hcap.ext hst2.ext)
  have hcall := A.call hc hargs hH2 (hs.gr.ext hst2.ext)
  refine ⟨w.heap.size + 1, [{ target := .collected w.heap.size, args := #[] }], _, { target := .fn (.func g) captured', args := first' ++ #[.func (.yield (w.heap.size + 1)) #[] #[]] }, _, g, first' ++ #[Value.func (.yield (w.heap.size + 1)) #[] #[]] ++ captured', _,
    run_enterLoop fnid a.tmps ps as bo w, run_rangeCall _ e1 _, fun _ _ => trivial, (by simp only [invoke]; exact hcallf _ _), fun hd => (by cases hd), CallsIn.mono hcall ?_⟩
  intro e w3 he
  obtain ⟨σ3, hen, hH3, hst3⟩ := he
  cases e with
  | panicked _ => exact hen.elim
  | outgrown => exact hen.elim
  | returned v' =>
    obtain ⟨b, S, es, mm, L3, q1, q2, q3, q4, q5, q6, q7, q8, q9, q10, q11, q12, q13, q14⟩ := hH3.loopAt hg3
    have hbe : b = w.heap.size + 1 := by
      rcases hst3.ext (st.H.new (some .dfr)).next with k | k | ⟨_, k⟩
      · rw [hσl] at k; cases k
      · rw [hσl, q1] at k; cases k; rfl
      · rw [q1] at k; cases k
    subst hbe
    obtain ⟨hH4, hst4⟩ := hH3.setLoop (s' := .exhausted) (pend' := pend) hg3 q1 q2 q3 q6 q7 q8 q9 q10 q11 q12 q13 q14
    have hstA := hst2.trans (hst3.trans hst4)
    have hL : ({ L3 with state := .exhausted, pending := pend } : Loop) = { L3 with state := .exhausted } := by rw [← q5]
    have hend := run_endLoop (P := P) q3 (by rw [q4]; exact hnb)
    rw [← hL, q5] at hend
    have hsr : SR P N w0 τ σ3 ⟨st.tm, { target := .collected st.H.next, args := #[] } :: st.ds, H3.put (st.H.new (some .dfr)).next (some (.loop .exhausted pend fn3 tm3 ps3 as3 bo3 dd3))⟩ m { a with defers := [{ target := .collected w.heap.size, args := #[] }] ++ a.defers }
        { w3 with heap := w3.heap.setIfInBounds (w.heap.size + 1) (.loop { L3 with state := .exhausted, pending := pend }) } := by
      refine ⟨hH4, hs.tm.ext hstA.ext, ⟨⟨LR.nil, .inr ⟨st.H.next, w.heap.size, rfl, rfl, ?_⟩⟩, hs.ds.ext hstA.ext⟩, hs.sz, hs.gr.ext hstA.ext⟩
      have : BR σ2 st.H.next w.heap.size := by unfold BR; rw [hσd]
      exact this.ext (hst3.trans hst4).ext
    refine ⟨pend, _, hend, ?_⟩
    cases pend with
    | none =>
      cases h
      exact hQ .normal _ _ σ3 trivial hsr hstA
    | some c =>
      have hokc : okCode P.globals.size m c = true := by
        rcases q14 with k | k | ⟨id, k⟩
        · cases k
        · cases k; rfl
        · cases k; rfl
      exact A.code Q h hokc hsr hF fun e2 a2 w2 σ5 he2 hs2 hst5 => hQ e2 a2 w2 σ5 he2 hs2 (hstA.trans hst5)
theorem code_step (hτ : ∀ j, (τ j).oneCell' = true) (hm : P.follows .mixedOrders = true) (A : All P N w0 τ ok n) (hE : ∀ k, k < n → All P N w0 τ ok k) {x c st ex st' m a w σ F} (Q : Exit → Act → World → Prop)
    (h : dcode P ok (n + 1) x c st = some (ex, st')) (hok : okCode P.globals.size m c = true) (hs : SR P N w0 τ σ st m a w) (hF : FRel x F) (hQ : Cont P N w0 τ σ st.H w ex st' m Q) : c.wpIn F 0 P Q a w := by
  cases c with
  | skip => unfold dcode at h; cases h; exact wpIn_skip (hQ .normal a w σ trivial hs (Step.refl _ _ _))
  | label l => unfold dcode at h; cases h; exact wpIn_label (hQ .normal a w σ trivial hs (Step.refl _ _ _))
  | exit i => unfold dcode at h; cases h; exact wpIn_exit (hQ (.exit i) a w σ rfl hs (Step.refl _ _ _))
  | ret => unfold dcode at h; cases h; exact wpIn_ret (hQ .ret a w σ trivial hs (Step.refl _ _ _))
  | region id ops dr =>
    unfold okCode at hok
    rw [Bool.and_eq_true] at hok
    cases dr with
    | false =>
      unfold dcode at h
      exact wpIn_region (A.ops Q h hok.1 hs hF hQ)
    | true =>
      unfold dcode at h
      simp only at h
      split at h
      · rename_i st1 hd
        cases h
        exact draw_step hτ hm hE Q hd hok.1 (by simpa using hok.2) hs hF hQ
      · split at h
        · rename_i ch H2 hp
          cases h
          exact pan_step hτ hm A Q hp hok.1 (by simpa using hok.2) hs hF hQ
        · cases h
  | seq c1 c2 =>
    unfold dcode at h
    simp only at h
    unfold okCode at hok
    rw [Bool.and_eq_true] at hok
    refine wpIn_seq ?_
    cases hc : dcode P ok n x c1 st with
    | none => rw [hc] at h; cases h
    | some p =>
      obtain ⟨ex1, st1⟩ := p
      rw [hc] at h
      refine A.code _ hc hok.1 hs hF ?_
      intro e a' w' σ' he hs' hst
      cases ex1 with
      | normal =>
        cases e <;> try exact he.elim
        exact A.code Q h hok.2 hs' hF fun e2 a2 w2 σ2 he2 hs2 hst2 => hQ e2 a2 w2 σ2 he2 hs2 (hst.trans hst2)
      | exit i => cases h; cases e <;> try exact he.elim
                  exact hQ _ a' w' σ' he hs' hst
      | ret => cases h; cases e <;> try exact he.elim
               exact hQ _ a' w' σ' he hs' hst
      | panic ch => cases h; cases e <;> try exact he.elim
                    exact hQ _ a' w' σ' he hs' hst
  | cond y c1 c2 =>
    unfold dcode at h
    simp only at h
    unfold okCode at hok
    rw [Bool.and_eq_true, Bool.and_eq_true] at hok
    have hy := opnd hs.tm hs.gr hok.1.1
    split at h
    · rename_i hv
      rw [hv] at hy
      exact wpIn_cond_true (hy.flat_eq rfl) (A.code Q h hok.1.2 hs hF hQ)
    · rename_i hv
      rw [hv] at hy
      exact wpIn_cond_false (hy.flat_eq rfl) (A.code Q h hok.2 hs hF hQ)
    · cases h
  | block i c1 =>
    unfold dcode at h
    simp only at h
    unfold okCode at hok
    refine wpIn_block ?_
    cases hc : dcode P ok n x c1 st with
    | none => rw [hc] at h; cases h
    | some p =>
      obtain ⟨ex1, st1⟩ := p
      rw [hc] at h
      refine A.code _ hc hok hs hF ?_
      intro e a' w' σ' he hs' hst
      cases ex1 with
      | normal => cases h; cases e <;> try exact he.elim
                  exact hQ .normal a' w' σ' trivial hs' hst
      | exit j =>
        cases e <;> try exact he.elim
        rename_i j'
        have hj : j = j' := he
        subst hj
        show (if j = i then Q .normal a' w' else Q (.exit j) a' w')
        by_cases hji : j = i
        · subst hji
          simp only [Nat.beq_refl, if_true] at h
          cases h
          rw [if_pos rfl]; exact hQ .normal a' w' σ' trivial hs' hst
        · have hb : Nat.beq j i = false := by rw [← Bool.not_eq_true, Nat.beq_eq]; exact hji
          simp only [hb, Bool.false_eq_true, if_false] at h
          cases h
          rw [if_neg hji]; exact hQ (.exit j) a' w' σ' rfl hs' hst
      | ret => cases h; cases e <;> try exact he.elim
               exact hQ _ a' w' σ' he hs' hst
      | panic ch => cases h; cases e <;> try exact he.elim
                    exact hQ _ a' w' σ' he hs' hst
  | scope c1 =>
    unfold dcode at h
    simp only at h
    unfold okCode at hok
    refine wpIn_scope (A.code _ h hok hs hF ?_)
    intro e a' w' σ' he hs' hst
    have hq := hQ e a' w' σ' he hs' hst
    cases e with
    | goto l => cases ex <;> exact he.elim
    | _ => exact hq
  | loop c1 =>
    unfold okCode at hok
    exact wpIn_loop_rounds (n + 1) (loop_step' A Q h hok hs hF hQ)
  | rangeFunc f ps as bo =>
    unfold dcode at h
    simp only at h
    unfold okCode at hok
    simp only [Bool.and_eq_true] at hok
    obtain ⟨⟨⟨hok1, hok2⟩, hok3⟩, hok4⟩ := hok
    split at h
    case h_2 => cases h
    rename_i g first captured hx hv
    split at h
    · cases h
    rename_i hd1
    have hFw := hF.round hx
    subst hFw
    have hd1' : ∃ d, dcall1 P g [] = some d := by
      cases hh : dcall1 P g [] with
      | none => rw [hh] at hd1; simp at hd1
      | some d => exact ⟨d, rfl⟩
    obtain ⟨d1, hd1'⟩ := hd1'
    split at h
    case h_2 => cases h
    rename_i v H3 hc
    split at h
    case h_2 => cases h
    rename_i s pend fn3 tm3 ps3 as3 bo3 dd3 hg3
    refine range_step A Q hok1 (fun t ht => by have := List.all_eq_true.1 hok2 t ht; simpa [Nat.blt_eq] using this) hok3 hok4 hs hF hv hd1' hc hg3 ?_ ?_ hQ
    · intro hb; subst hb; cases h
    · cases s <;> first | cases h | exact h
  | _ => unfold dcode at h; cases h
end
end Go.Hb
end

-- Snd6
section
namespace Go.Hb
open Go Go.RowKit
section
variable {P : Program} {N : Nat} {w0 : World} {τ : Nat → Value} {ok : Ok} {n : Nat}
structure OkFns (P : Program) (N : Nat) (w0 : World) (ok : Ok) : Prop where
  code : ∀ f fn c, ok.testBit f = true → P.funcs[f]? = some fn → fn.body = some c → okCode P.globals.size fn.ntmps c = true
  know : ∀ (τ : Nat → Value) f args args' H en H' w σ, (∀ j, (τ j).oneCell' = true) → ok.K f args H = some (en, H') → LR σ τ args args'.toList → HR P N w0 τ σ H w → GR P σ →
    Calls P f args' w fun e w' => ∃ σ', EnR σ' τ en e ∧ HR P N w0 τ σ' H' w' ∧ Step σ H w σ' H' w'
theorem SR.init {σ : Nat → Loc} {H : Heap} {w : World} {args : List Value} {args' : Array Value} (hl : LR σ τ args args'.toList) (hH : HR P N w0 τ σ H w) (hg : GR P σ) (nt : Nat) :
    SR P N w0 τ σ ⟨initTm 0 args .nil, [], H⟩ nt { tmps := args' ++ Array.replicate (nt - args'.size) undef, defers := [] } w :=
  ⟨hH, TmR.init hl nt, trivial, by simp; omega, hg⟩
theorem call_step (hτ : ∀ j, (τ j).oneCell' = true) (hOK : OkFns P N w0 ok) (A : All P N w0 τ ok n) {f args args' H en H' w σ} (h : dcall P ok (n + 1) f args H = some (en, H')) (hl : LR σ τ args args'.toList) (hH : HR P N w0 τ σ H w) (hg : GR P σ) :
    CallsIn Fence.wide 0 P f args' w fun e w' => ∃ σ', EnR σ' τ en e ∧ HR P N w0 τ σ' H' w' ∧ Step σ H w σ' H' w' := by
  unfold dcall at h
  split at h
  · rename_i r hk
    cases h
    exact callsIn_wide.2 (hOK.know τ f args args' H en H' w σ hτ hk hl hH hg)
  split at h
  case h_2 => cases h
  rename_i fn hf hb
  split at h
  case h_2 => cases h
  rename_i c hc
  refine callsIn_of_wp_marks hf hc trivial ?_
  have hcode := hOK.code f fn c hb hf hc
  cases hd : dcode P ok n ⟨f, none⟩ c ⟨initTm 0 args .nil, [], H⟩ with
  | none => rw [hd] at h; cases h
  | some p =>
    obtain ⟨ex, st⟩ := p
    rw [hd] at h
    refine A.code _ hd hcode (SR.init hl hH hg fn.ntmps) (.inl ⟨rfl, rfl⟩) ?_
    intro e a' w' σ' he hs hst
    cases ex with
    | normal =>
      cases e <;> try exact he.elim
      exact A.leave _ h hs.tm hs.ds trivial hs.hH hs.gr fun e2 w2 σ2 he2 hH2 hst2 => ⟨σ2, he2, hH2, hst.trans hst2⟩
    | ret =>
      cases e <;> try exact he.elim
      exact A.leave _ h hs.tm hs.ds trivial hs.hH hs.gr fun e2 w2 σ2 he2 hH2 hst2 => ⟨σ2, he2, hH2, hst.trans hst2⟩
    | panic ch =>
      cases e <;> try exact he.elim
      exact A.leave (u := .panicking _) _ h hs.tm hs.ds he hs.hH hs.gr fun e2 w2 σ2 he2 hH2 hst2 => ⟨σ2, he2, hH2, hst.trans hst2⟩
    | exit i => cases h
theorem seqS_of_seqW {F : Fence} (hro : F.round = none) (Q : Exit → Act → List Frame → World → Prop) (cs : List Frame) : ∀ (rs : List Code) (a : Act) (w : World), seqW F P (fun e a w => Q e a cs w) rs a w → seqS F 0 P Q rs a cs w
  | [], a, w, h => h
  | c :: rs, a, w, h => by
    refine wpSIn_of_wpIn hro (wpIn_mono h fun e a' w' he => ?_)
    cases e with
    | normal => exact seqS_of_seqW hro Q cs rs a' w' he
    | _ => exact he
theorem plain_sound (hτ : ∀ j, (τ j).oneCell' = true) {F : Fence} (hF : ∀ f, F.fn f) {ops : Array Oper} {m : Nat} (hok : ops.toList.all (okOper P.globals.size m) = true) (Q : Exit → Act → List Frame → World → Prop) (cs : List Frame) :
    ∀ (l : List Nat) (tm : Tr Value) (H : Heap) (r : Tr Value × Heap) (a : Act) (w : World) (σ : Nat → Loc), dplain P ops l tm H = some r → HR P N w0 τ σ H w → TmR σ τ tm a.tmps → m ≤ a.tmps.size → GR P σ →
    (∀ a' w' σ', HR P N w0 τ σ' r.2 w' → TmR σ' τ r.1 a'.tmps → a'.defers = a.defers → m ≤ a'.tmps.size → Step σ H w σ' r.2 w' → Q .normal a' cs w') → wpOpsSIn F 0 P ops Q l a cs w
  | [], tm, H, r, a, w, σ, h, hH, ht, hm, hg, hQ => by
    unfold dplain at h
    cases h
    exact hQ a w σ hH ht rfl hm (Step.refl _ _ _)
  | i :: l, tm, H, r, a, w, σ, h, hH, ht, hm, hg, hQ => by
    unfold dplain at h
    unfold wpOpsSIn
    cases ho : ops[i]? with
    | none => rw [ho] at h; cases h
    | some o =>
      rw [ho] at h
      simp only at h ⊢
      have hmem : o ∈ ops.toList := by
        obtain ⟨h1, h2⟩ := Array.getElem?_eq_some_iff.1 ho
        rw [← h2]; exact Array.getElem_mem_toList h1
      have hoko := List.all_eq_true.1 hok o hmem
      unfold okOper at hoko
      rw [Bool.and_eq_true] at hoko
      have hdm : ∀ d, o.dst = some d → d < m := fun d hd => by have := hoko.1; rw [hd] at this; simpa [Nat.blt_eq] using this
      split at h
      case h_2 => cases h
      rename_i v H1 hgd hd
      have hw : Region.wanted o (yielded ops a.tmps) = true := by unfold Region.wanted; rw [hgd]
      refine ⟨fun f _ => hF f, ?_⟩
      rw [hw]
      simp only [if_true]
      obtain ⟨nx, w', σ', v', hrun, hnx, hv, hH', hst⟩ := dop_sound hH hτ (fun y hy => opnd ht hg (List.all_eq_true.1 hoko.2 y hy)) hd
      have next : wpOpsSIn F 0 P ops Q l (a.put o.dst v') cs w' := by
        refine plain_sound hτ hF hok Q cs l (putD tm o.dst v) H1 r _ w' σ' h hH' (TmR.put ht hst.ext (fun t hd => Nat.lt_of_lt_of_le (hdm t hd) hm) hv) (by rw [act_put_size]; exact hm) (hg.ext hst.ext) ?_
        intro a' w2 σ2 k1 k2 k3 k4 k5
        exact hQ a' w2 σ2 k1 k2 (by rw [k3, act_put_defers]) k4 (hst.trans k5)
      rw [hrun]
      rcases hnx with rfl | ⟨rfl, rfl⟩
      · exact next
      · exact next
theorem isRecover_run {o : Oper} (h : isRecover o = true) (ρ : Operand → Value) (w : World) : o.guard = none ∧ (execOp ρ o).run P w = .ok .recover w := by
  unfold isRecover at h
  split at h
  case h_2 => cases h
  rename_i c hg ho
  split at h
  case h_2 => cases h
  rename_i hc ha
  refine ⟨hg, ?_⟩
  have hd : dop P o ρ ⟨0, .nil⟩ = some .recov := by
    unfold dop; rw [ho]; simp only [hc, ha]
  unfold execOp
  rw [ho]
  obtain ⟨callee, args, ats⟩ := c
  simp only at hc ha
  subst hc
  simp only [resolve]
  rfl
theorem recov_ops {F : Fence} {k : Nat} (hF : ∀ f, F.fn f) {ops : Array Oper} {i : Nat} {o : Oper} (ho : ops[i]? = some o) (hrec : isRecover o = true) {Q : Exit → Act → List Frame → World → Prop} {rest : List Nat} {a : Act} {cs cs1 : List Frame} {w : World} {v' : Value}
    (hrv : (match recoverD cs with | some (v, cs') => (v, cs') | none => (.nilIface, cs)) = (v', cs1)) (h : wpOpsSIn F k P ops Q rest (a.put o.dst v') cs1 w) : wpOpsSIn F k P ops Q (i :: rest) a cs w := by
  unfold wpOpsSIn
  rw [ho]
  simp only
  refine ⟨fun _ _ => hF _, ?_⟩
  have hir := isRecover_run (P := P) hrec
  have hw : Region.wanted o (yielded ops a.tmps) = true := by unfold Region.wanted; rw [(hir a.eval w).1]
  rw [hw]
  simp only [if_true]
  rw [(hir _ w).2]
  cases hrd : recoverD cs with
  | none =>
    rw [hrd] at hrv
    simp only [Prod.mk.injEq] at hrv
    simp only
    rw [hrv.1, hrv.2]
    exact h
  | some p =>
    obtain ⟨v2, cs2⟩ := p
    rw [hrd] at hrv
    simp only [Prod.mk.injEq] at hrv
    simp only
    rw [hrv.1, hrv.2]
    exact h
theorem okHead : ∀ {c : Code} {ops : Array Oper} {rs : List Code} {g m : Nat}, headRegion c = some (ops, rs) → okCode g m c = true → ops.toList.all (okOper g m) = true ∧ ∀ d ∈ rs, okCode g m d = true := by
  intro c
  induction c with
  | region id ops dr =>
    intro ops' rs g m h hok
    cases dr with
    | true => cases h
    | false =>
      simp only [headRegion, Option.some.injEq, Prod.mk.injEq] at h
      obtain ⟨rfl, rfl⟩ := h
      unfold okCode at hok
      rw [Bool.and_eq_true] at hok
      exact ⟨hok.1, fun d hd => (by cases hd)⟩
  | seq x y ihx _ =>
    intro ops' rs g m h hok
    simp only [headRegion] at h
    unfold okCode at hok
    rw [Bool.and_eq_true] at hok
    cases hx : headRegion x with
    | none => rw [hx] at h; cases h
    | some p =>
      obtain ⟨ops1, rs1⟩ := p
      rw [hx] at h
      simp only [Option.some.injEq, Prod.mk.injEq] at h
      obtain ⟨rfl, rfl⟩ := h
      obtain ⟨k1, k2⟩ := ihx hx hok.1
      refine ⟨k1, fun d hd => ?_⟩
      rcases List.mem_append.1 hd with hd | hd
      · exact k2 d hd
      · simp at hd; rw [hd]; exact hok.2
  | _ => intro ops' rs g m h; cases h
theorem DsR.nil_inv {σ : Nat → Loc} {ds : List Deferred} (h : DsR σ τ [] ds) : ds = [] := by
  cases ds with
  | nil => rfl
  | cons _ _ => exact h.elim
theorem leave_step (hτ : ∀ j, (τ j).oneCell' = true) (hOK : OkFns P N w0 ok) (A : All P N w0 τ ok n) {fn tm ds md H en H' tmps ds' u w σ} (R : Ending → World → Prop) (h : dleave P ok (n + 1) fn tm ds md H = some (en, H')) (ht : TmR σ τ tm tmps)
    (hd : DsR σ τ ds ds') (hu : MdR σ τ md u) (hH : HR P N w0 τ σ H w) (hg : GR P σ) (hR : ∀ e w' σ', EnR σ' τ en e → HR P N w0 τ σ' H' w' → Step σ H w σ' H' w' → R e w') : LeavesInM Fence.wide 0 P fn tmps R ds' u w := by
  cases ds with
  | nil =>
    have := hd.nil_inv
    subst this
    unfold dleave at h
    cases md with
    | none =>
      cases u with
      | returning =>
        simp only at h
        cases hr : dres P fn tm H with
        | none => rw [hr] at h; cases h
        | some v =>
          rw [hr] at h
          cases h
          obtain ⟨v', hrun, hv⟩ := dres_sound hH ht hr
          exact ⟨v', hrun, hR _ w σ hv hH (Step.refl _ _ _)⟩
      | run => exact hu.elim
      | panicking _ => exact hu.elim
    | some ch =>
      cases u with
      | panicking ch' => cases h; exact hR _ w σ hu hH (Step.refl _ _ _)
      | run => exact hu.elim
      | returning => exact hu.elim
  | cons d ds =>
    cases ds' with
    | nil => exact hd.elim
    | cons d' ds' =>
      obtain ⟨⟨hargs, htgt⟩, hds⟩ := hd
      unfold dleave at h
      unfold LeavesInM
      refine ⟨hu.ne_run, ?_⟩
      rcases htgt with ⟨g, cap, cap', e1, e2, hcap⟩ | ⟨l, l', e1, e2, hbr⟩
      ·
        rw [e1] at h
        simp only at h
        split at h
        case h_2 => cases h
        rename_i gn hgn hokg
        rw [Bool.and_eq_true] at hokg
        obtain ⟨hokg, hd1⟩ := hokg
        obtain ⟨d1, hd1⟩ := Option.isSome_iff_exists.1 hd1
        obtain ⟨_, hcallf⟩ := dcall1_sound hd1
        split at h
        case h_2 => cases h
        rename_i c hc
        split at h
        case h_2 => cases h
        rename_i ops rest hhead
        split at h
        case h_2 => cases h
        rename_i o ho
        split at h
        case isFalse => cases h
        rename_i hrec
        split at h
        case h_2 => cases h
        rename_i tm1 H1 hpl
        refine .inr ⟨fun hh => (by cases hh), .func g, cap', g, d'.args ++ cap', e2, by rw [e2]; simp only [invoke]; exact hcallf _ _, fun _ _ => trivial, ?_⟩
        obtain ⟨hok1, hok2⟩ := okHead hhead (hOK.code g gn c hokg hgn hc)
        refine callsDIn_of_wpSIn hgn hc trivial fun c₀ cs hmode => ?_
        refine head_wpS hhead ?_
        have hsz : 0 < ops.size := (Array.getElem?_eq_some_iff.1 ho).1
        have hrange : List.range ops.size = 0 :: (List.range ops.size).drop 1 := by
          obtain ⟨k, hk⟩ : ∃ k, ops.size = k + 1 := ⟨ops.size - 1, by omega⟩
          rw [hk, List.range_succ_eq_map]; rfl
        rw [hrange]
        obtain ⟨v', u', hrv, hvr, hmd⟩ := recov_sound (cs := cs) (c₀ := c₀) (by rw [hmode]; exact hu)
        have hmem : o ∈ ops.toList := by
          obtain ⟨h1, h2⟩ := Array.getElem?_eq_some_iff.1 ho
          rw [← h2]; exact Array.getElem_mem_toList h1
        have hoko := List.all_eq_true.1 hok1 o hmem
        unfold okOper at hoko
        rw [Bool.and_eq_true] at hoko
        have hdm : ∀ t, o.dst = some t → t < gn.ntmps := fun t hd => by have := hoko.1; rw [hd] at this; simpa [Nat.blt_eq] using this
        have hl : LR σ τ (d.args.toList ++ cap.toList) (d'.args ++ cap').toList := by rw [Array.toList_append]; exact LR.append hargs hcap
        have hs0 := SR.init (P := P) hl hH hg gn.ntmps
        have hst0 : (St.put ⟨initTm 0 (d.args.toList ++ cap.toList) .nil, [], H⟩ o.dst (drecov md).1 H).tm = putD (initTm 0 (d.args.toList ++ cap.toList) .nil) o.dst (drecov md).1 := by cases o.dst <;> rfl
        rw [hst0] at hpl
        have main : wpOpsSIn Fence.wide 0 P ops (Exit.thenS (seqS Fence.wide 0 P (bodyPostS P gn c₀ cs (fun
            | .returned _, u', w' => LeavesInM Fence.wide 0 P fn tmps R ds' (settle u') w'
            | .panicked chain, u', w' => LeavesInM Fence.wide 0 P fn tmps R ds' (raised u' chain) w'
            | .outgrown, _, w' => R .outgrown w')) rest) (bodyPostS P gn c₀ cs (fun
            | .returned _, u', w' => LeavesInM Fence.wide 0 P fn tmps R ds' (settle u') w'
            | .panicked chain, u', w' => LeavesInM Fence.wide 0 P fn tmps R ds' (raised u' chain) w'
            | .outgrown, _, w' => R .outgrown w'))) ((List.range ops.size).drop 1)
            ((({ tmps := (d'.args ++ cap') ++ Array.replicate (gn.ntmps - (d'.args ++ cap').size) undef, defers := [] } : Act)).put o.dst v') ({ c₀ with mode := u' } :: cs) w := by
          refine plain_sound hτ (fun _ => trivial) hok1 _ _ _ _ H (tm1, H1) _ w σ hpl hH (TmR.put hs0.tm (Ext.refl σ) (fun t hd => Nat.lt_of_lt_of_le (hdm t hd) hs0.sz) hvr) (by rw [act_put_size]; exact hs0.sz) hg ?_
          intro a1 w1 σ1 hH1 ht1 hdf1 hsz1 hst1
          rw [act_put_defers] at hdf1
          show seqS Fence.wide 0 P _ rest a1 _ w1
          refine seqS_of_seqW rfl _ _ rest a1 w1 ?_
          cases hsq : dseq P ok n ⟨g, none⟩ rest ⟨tm1, [], H1⟩ with
          | none => rw [hsq] at h; cases h
          | some p =>
            obtain ⟨ex, st2⟩ := p
            rw [hsq] at h
            refine A.seq _ hsq hok2 ⟨hH1, ht1, by rw [hdf1]; trivial, hsz1, hg.ext hst1.ext⟩ (.inl ⟨rfl, rfl⟩) ?_
            intro e a2 w2 σ2 he hs2 hst2
            have hstA := hst1.trans hst2
            have fin : ∀ (hx : (if st2.ds.isEmpty && gn.results.isEmpty then dleave P ok n fn tm ds (dsettle (drecov md).2) st2.H else none) = some (en, H')),
                a2.defers = [] ∧ ∃ u2, ({ c₀ with mode := u' } :: cs : List Frame) = { c₀ with mode := u2 } :: cs ∧ ∃ v, (results gn a2.tmps).run P w2 = .ok v w2 ∧ LeavesInM Fence.wide 0 P fn tmps R ds' (settle u2) w2 := by
              intro hx
              split at hx
              case isFalse => cases hx
              rename_i hemp
              rw [Bool.and_eq_true] at hemp
              have hds2 : st2.ds = [] := by simpa using hemp.1
              have hrs : gn.results = #[] := by simpa using hemp.2
              have hdf2 : a2.defers = [] := by have := hs2.ds; rw [hds2] at this; exact this.nil_inv
              refine ⟨hdf2, u', rfl, .tuple #[], by simp [results, hrs], ?_⟩
              exact A.leave R hx (ht.ext hstA.ext) (hds.ext hstA.ext) ((hmd.ext hstA.ext).settle) hs2.hH hs2.gr fun e3 w3 σ3 he3 hH3 hst3 => hR e3 w3 σ3 he3 hH3 (hstA.trans hst3)
            cases ex with
            | normal =>
              cases e <;> try exact he.elim
              obtain ⟨q1, u2, q2, v, q3, q4⟩ := fin h
              exact ⟨q1, u2, q2, v, q3, q4⟩
            | ret =>
              cases e <;> try exact he.elim
              obtain ⟨q1, u2, q2, v, q3, q4⟩ := fin h
              exact ⟨q1, u2, q2, v, q3, q4⟩
            | exit i => cases h
            | panic ch => cases h
        exact recov_ops (fun _ => trivial) ho hrec hrv main
      ·
        rw [e1] at h
        simp only at h
        split at h
        case h_2 => cases h
        rename_i hgl
        have hB := hH.blk l _ hgl
        have hlt := hH.get_lt hgl
        generalize hσ : σ l = loc at hB
        cases hB with
        | dfr b S es q1 q2 =>
          have hlb := hbr.at' hσ
          subst hlb
          obtain ⟨hH2, hst2⟩ := hH.drop (w' := { w with heap := w.heap.setIfInBounds l' (.deferred none) }) (by rw [hgl]; simp) hlt hσ q1 rfl rfl rfl (by simp) (fun k hk => set_at _ hk)
          refine .inl ⟨l', _, e2, ?_, A.leave R h (ht.ext hst2.ext) (hds.ext hst2.ext) (hu.ext hst2.ext) hH2 (hg.ext hst2.ext) fun e3 w3 σ3 he3 hH3 hst3 => hR e3 w3 σ3 he3 hH3 (hst2.trans hst3)⟩
          have hgo : (getObj l').run P w = .ok (.deferred (some [])) w := by simp [getObj, Sem.run, q2]
          simp [Instr.takeDeferred, Sem.run_bind, hgo, run_setDfr q2]
end
end Go.Hb
end

-- Snd7
section
namespace Go.Hb
open Go Go.RowKit
section
variable {P : Program} {N : Nat} {w0 : World} {τ : Nat → Value} {ok : Ok} {n : Nat}
theorem run_beginRound {w : World} {b : Nat} {L : Loop} (h : w.heap[b]? = some (.loop L)) (hr : L.state = .ready) :
    (Instr.beginRound b).run P w = .ok () { w with heap := w.heap.setIfInBounds b (.loop { L with state := .busy }) } := by
  simp [Instr.beginRound, Sem.run_bind, run_getLoop h, run_setLoop h, hr]
theorem run_endRound {w : World} {b : Nat} {L : Loop} (h : w.heap[b]? = some (.loop L)) (jump : Option Code) :
    (Instr.endRound b jump).run P w = .ok (.bool jump.isNone) { w with heap := w.heap.setIfInBounds b (.loop { L with state := if jump.isNone then .ready else .done, pending := jump }) } := by
  simp [Instr.endRound, Sem.run_bind, run_getLoop h, run_setLoop h]
theorem run_yield {w : World} {b : Nat} {L : Loop} {args : Array Value} (h : w.heap[b]? = some (.loop L)) (hs : args.size = L.params.size) :
    (Instr.yield b args).run P w = .ok (.round b L.fn ((L.params.zip args).foldl (fun tmps (t, a) => tmps.setIfInBounds t a) L.tmps) L.assign L.body) w := by
  simp [Instr.yield, Sem.run_bind, run_getLoop h, hs]
theorem round_step (A : All P N w0 τ ok n) {l l' args args' H v H' w σ} (h : dround P ok (n + 1) l args H = some (v, H')) (hbr : BR σ l l') (hl : LR σ τ args args'.toList) (hH : HR P N w0 τ σ H w) (hg : GR P σ) :
    ∃ f tmps as bo, (Instr.yield l' args').run P w = .ok (.round l' f tmps as bo) w ∧
      ∀ (F : Fence), (F = Fence.wide ∨ ∃ l2, F = Fence.wide.inRound l2) → RoundIn F 0 P l' f tmps as bo w fun e w' => ∃ v' σ', e = .returned v' ∧ VR σ' τ v v' ∧ HR P N w0 τ σ' H' w' ∧ Step σ H w σ' H' w' := by
  unfold dround at h
  split at h
  case h_2 => cases h
  rename_i pend fn tm ps as bo dd hgl
  obtain ⟨b, S, es, m, L, q1, q2, q3, q4, q5, q6, q7, q8, q9, q10, q11, q12, q13, q14⟩ := hH.loopAt hgl
  have hlb := hbr.at' q1
  subst hlb
  split at h
  case isFalse => cases h
  rename_i hlen
  rw [Nat.beq_eq] at hlen
  have hsz : args'.size = L.params.size := by
    have h1 := hl.1
    have h2 : L.params.toList.length = ps.length := by rw [q6]
    simp at h1 h2
    omega
  obtain ⟨hz1, hz2⟩ := zip_rel hl q9 q10 q13
  have hfold : (L.params.zip args').foldl (fun tmps (t, a) => tmps.setIfInBounds t a) L.tmps = (ps.zip args'.toList).foldl (fun tmps p => tmps.setIfInBounds p.1 p.2) L.tmps := by
    rw [← q6, ← Array.foldl_toList, Array.toList_zip]
  refine ⟨L.fn, _, L.assign, L.body, run_yield q3 hsz, fun F hF => ?_⟩
  rw [hfold]
  have hFn : ∀ f, F.fn f := by rcases hF with rfl | ⟨l2, rfl⟩ <;> exact fun _ => trivial
  have hFr : ∀ fn0 : FuncId, FRel ⟨fn0, some l⟩ (F.inRound l') := fun fn0 => by
    refine .inr ⟨by simp, l', ?_⟩
    rcases hF with rfl | ⟨l2, rfl⟩ <;> rfl
  refine roundIn_of_wpIn (hFn _) ?_
  rw [q7, q8]
  dsimp only at h
  cases hd : dcode P ok n ⟨fn, some l⟩ as ⟨(ps.zip args).foldl (fun t p => t.put p.1 (some p.2)) tm, [], H⟩ with
  | none => rw [hd] at h; cases h
  | some p =>
    obtain ⟨ex1, st1⟩ := p
    rw [hd] at h
    cases ex1 with
    | exit i => cases h
    | ret => cases h
    | panic ch => cases h
    | normal =>
      simp only at h
      refine A.code (m := m) _ hd q11 ⟨hH, hz1, trivial, by rw [hz2]; exact q10, hg⟩ (hFr fn) ?_
      intro e a1 w1 σ1 he hs1 hst1
      cases e <;> try exact he.elim
      split at h
      case h_2 => cases h
      rename_i pend1 fn1 tm1 ps1 as1 bo1 d1 hgl1
      obtain ⟨b1, S1, es1, m1, L1, r1, r2, r3, r4, r5, r6, r7, r8, r9, r10, r11, r12, r13, r14⟩ := hs1.hH.loopAt hgl1
      have live : ∀ {σ2 : Nat → Loc} {b2 S2 es2 : Nat}, Ext σ σ2 → σ2 l = .live b2 S2 es2 → b2 = l' := fun he hl2 => by
        rcases he l with k | k | ⟨_, k⟩
        · rw [q1] at k; cases k
        · rw [q1, hl2] at k; cases k; rfl
        · rw [hl2] at k; cases k
      have hb1 := live hst1.ext r1
      subst hb1
      obtain ⟨hH2, hst2⟩ := hs1.hH.setLoop (s' := .busy) (pend' := pend1) hgl1 r1 r2 r3 r6 r7 r8 r9 r10 r11 r12 r13 r14
      have hL2 : ({ L1 with state := .busy, pending := pend1 } : Loop) = { L1 with state := .busy } := by rw [← r5]
      rw [hL2] at hH2 hst2
      refine ⟨_, run_beginRound r3 r4, ?_⟩
      cases hd2 : dcode P ok n ⟨fn, some l⟩ bo ⟨st1.tm, st1.ds, st1.H.put l (some (.loop .busy pend1 fn1 tm1 ps1 as1 bo1 d1))⟩ with
      | none => rw [hd2] at h; cases h
      | some p2 =>
        obtain ⟨ex2, st2⟩ := p2
        rw [hd2] at h
        refine A.code (m := m) _ hd2 q12 ⟨hH2, hs1.tm, hs1.ds, hs1.sz, hs1.gr⟩ (hFr fn) ?_
        intro e2 a2 w2 σ2 he2 hs2 hst3
        have hstA := hst1.trans (hst2.trans hst3)
        have fin : ∀ (jump : Option Code) (vv : Value) (s : LoopState), dendRound l jump vv s st2.H = some (v, H') → vv = .bool jump.isNone → s = (if jump.isNone then .ready else .done) → (jump = none ∨ jump = some .ret ∨ ∃ id, jump = some (.exit id)) →
            ∃ v' w', (Instr.endRound b1 jump).run P w2 = .ok v' w' ∧ ∃ v2 σ', Ending.returned v' = .returned v2 ∧ VR σ' τ v v2 ∧ HR P N w0 τ σ' H' w' ∧ Step σ H w σ' H' w' := by
          intro jump vv s hx hvv hss hj
          unfold dendRound at hx
          split at hx
          case h_2 => cases hx
          rename_i s0 pend0 fn3 tm3 ps3 as3 bo3 d3 hgl3
          cases hx
          obtain ⟨b3, S3, es3, m3, L3, t1, t2, t3, t4, t5, t6, t7, t8, t9, t10, t11, t12, t13, t14⟩ := hs2.hH.loopAt hgl3
          have hb3 := live hstA.ext t1
          subst hb3
          obtain ⟨hH4, hst4⟩ := hs2.hH.setLoop (s' := s) (pend' := jump) hgl3 t1 t2 t3 t6 t7 t8 t9 t10 t11 t12 t13 hj
          rw [hss] at hH4 hst4
          refine ⟨_, _, run_endRound t3 jump, _, σ2, rfl, ?_, by rw [hss]; exact hH4, by rw [hss]; exact hstA.trans hst4⟩
          rw [hvv]; exact .flat _ rfl
        cases ex2 with
        | normal =>
          cases e2 <;> try exact he2.elim
          exact fin none _ _ h rfl rfl (.inl rfl)
        | ret =>
          cases e2 <;> try exact he2.elim
          exact fin (some .ret) _ _ h rfl rfl (.inr (.inl rfl))
        | exit id =>
          cases e2 <;> try exact he2.elim
          rename_i id'
          have hid : id = id' := he2
          subst hid
          exact fin (some (.exit id)) _ _ h rfl rfl (.inr (.inr ⟨id, rfl⟩))
        | panic ch => cases h
theorem all_zero : All P N w0 τ ok 0 := by
  constructor
  · intros; rename_i h _ _ _ _; unfold dcode at h; cases h
  · intros; rename_i h _ _ _ _; unfold dcode at h; cases h
  · intros; rename_i h _ _ _ _; unfold dseq at h; cases h
  · intros; rename_i h _ _ _ _; unfold dops at h; cases h
  · intros; rename_i h _ _ _ _ _ _; unfold dop1 at h; cases h
  · intros; rename_i h _ _ _; unfold dcall at h; cases h
  · intros; rename_i h _ _ _ _ _ _; unfold dleave at h; cases h
  · intros; rename_i h _ _ _ _; unfold dround at h; cases h
theorem all_sound (hτ : ∀ j, (τ j).oneCell' = true) (hm : P.follows .mixedOrders = true) (hOK : OkFns P N w0 ok) : ∀ n, All P N w0 τ ok n := by
  intro n
  induction n using Nat.strongRecOn with
  | _ n ih =>
    cases n with
    | zero => exact all_zero
    | succ n =>
      have A := ih n (Nat.lt_succ_self n)
      have hE : ∀ k, k < n → All P N w0 τ ok k := fun k hk => ih k (by omega)
      exact {
        code := fun Q h hok hs hF hQ => code_step hτ hm A hE Q h hok hs hF hQ
        loop := fun Q h hok hs hF hQ => loop_step' A Q h hok hs hF hQ
        seq := fun Q h hok hs hF hQ => seq_step A Q h hok hs hF hQ
        ops := fun Q h hok hs hF hQ => ops_step A Q h hok hs hF hQ
        op1 := fun K Q h hρ hH hd hg hF hK => op1_step hτ A K Q h hρ hH hd hg hF hK
        call := fun h hl hH hg => call_step hτ hOK A h hl hH hg
        leave := fun R h ht hd hu hH hg hR => leave_step hτ hOK A R h ht hd hu hH hg hR
        round := fun h hb hl hH hg => round_step A h hb hl hH hg }
theorem calls_of_run (hτ : ∀ j, (τ j).oneCell' = true) (hm : P.follows .mixedOrders = true) (hOK : OkFns P N w0 ok) {f : FuncId} {args : List Value} {args' : Array Value} {H H' : Heap} {en : En} {w : World} {σ : Nat → Loc}
    (h : dcall P ok n f args H = some (en, H')) (hl : LR σ τ args args'.toList) (hH : HR P N w0 τ σ H w) (hg : GR P σ) :
    Calls P f args' w fun e w' => ∃ σ', EnR σ' τ en e ∧ HR P N w0 τ σ' H' w' ∧ Step σ H w σ' H' w' :=
  callsIn_wide.1 ((all_sound hτ hm hOK n).call h hl hH hg)
end
end Go.Hb
end

-- Close
section
namespace Go.Hb
open Go Go.RowKit
def okFn (P : Program) (f : FuncId) : Bool :=
  match P.funcs[f]? with
  | some fn => match fn.body with
    | some c => okCode P.globals.size fn.ntmps c
    | none => true
  | none => true
theorem okFns_code {P : Program} {ok : Nat} (h : ((List.range P.funcs.size).all fun f => !ok.testBit f || okFn P f) = true) : ∀ f fn c, ok.testBit f = true → P.funcs[f]? = some fn → fn.body = some c → okCode P.globals.size fn.ntmps c = true := by
  intro f fn c hb hf hc
  have hlt : f < P.funcs.size := (Array.getElem?_eq_some_iff.1 hf).1
  have := List.all_eq_true.1 h f (List.mem_range.2 hlt)
  rw [hb] at this
  simp only [Bool.not_true, Bool.false_or] at this
  unfold okFn at this
  rw [hf] at this
  simp only [hc] at this
  exact this
def retTrue : Option (En × Heap) → Bool
  | some (.ret (.bool true), _) => true
  | _ => false
theorem retTrue_inv {r : Option (En × Heap)} (h : retTrue r = true) : ∃ H', r = some (.ret (.bool true), H') := by
  unfold retTrue at h
  split at h
  · exact ⟨_, rfl⟩
  · cases h
def sig0 (nx : Nat) : Nat → Loc := fun i => if i < nx then .dead else .none
theorem HR.start {P : Program} {τ : Nat → Value} (nx : Nat) (W : World) : HR P W.heap.size W τ (sig0 nx) ⟨nx, .nil⟩ W := by
  refine ⟨Below.refl _ _, Nat.le_refl _, fun i hi => ?_, fun i B hB => ?_, fun i j b S es S' es' hi => ?_, fun i b S es hi => ?_⟩
  · have hi' : nx ≤ i := hi
    unfold sig0; rw [if_neg (by omega)]
  · cases hB
  · unfold sig0 at hi; split at hi <;> cases hi
  · unfold sig0 at hi; split at hi <;> cases hi
theorem GR.start {P : Program} {nx : Nat} (h : P.globals.size ≤ nx) : GR P (sig0 nx) := fun g hg => .inl (by unfold sig0; rw [if_pos (by omega)])
section
open Go.ChangeShapes Go.WideShapes
variable {H : Type} {enc : TypeId × Value → H} {P : Program}
theorem post_of_below {f : Func} {s : ChangeSpec} {apart fresh handsOn again : Bool} {W W' : World} {args : Array Value} {v : Value} {ds gs : List (DataW H)} {before pa pv : List MemPlace}
    (hW : DataW.Whole enc P f.params.toList s.vars apart W args.toList ds gs before)
    (hres : ∀ (b : Nat) (sp : Nat → Bool) (hd : Bool), DataW.TrodAll enc P W' b sp hd f.resultTypes.toList (v.resultList f.resultTypes.size) (s.fn H (ds ++ gs)).results [])
    (hargs : ∀ sp : Nat → Bool, (∀ p ∈ before, sp p.block = true) → DataW.TrodAll enc P W' 0 sp true f.params.toList args.toList (s.fn H (ds ++ gs)).args pa)
    (hvars : ∀ sp : Nat → Bool, (∀ p ∈ before, sp p.block = true) → DataW.TrodVars enc P W' sp s.vars (s.fn H (ds ++ gs)).vars pv)
    (hps : before = pa ++ pv) (hB : Below W.heap.size W W')
    (hok : ∀ (j : Nat) (t : TypeId) (r : Value), f.resultTypes[j]? = some t → (v.resultList f.resultTypes.size)[j]? = some r → Value.okWide P W' .any 0 t r) :
    s.post enc P f apart fresh handsOn again W args v W' := by
  have hlt : ∀ p ∈ before, p.block < W.heap.size := fun p hp => hW.lt p hp
  have hold : ∀ p ∈ before, (fun b => decide (b < W.heap.size)) p.block = true := fun p hp => by simpa using hW.lt p hp
  refine ⟨ds, gs, before, [], pa, pv, hW, hres _ _ _, hargs _ hold, hvars _ hold, World.keptBut_mono (fun p hp => ⟨hp, ?_⟩) (hB.frame (· ∈ before)), fun _ => ?_⟩
  · rw [hps, List.mem_append] at hp
    exact Or.inr hp
  · obtain ⟨_, _, _, _, _, hz, hn⟩ := hW
    refine ⟨hok, _, _, ([] ++ pa) ++ pv, ⟨[] ++ pa, pv, trodAll_append (hargs _ (fun _ _ => rfl)) (hres _ _ _), hvars _ (fun _ _ => rfl), rfl, ?_, ?_⟩, ?_⟩
    · intro b off hp
      have hp' : MemPlace.cell b off ∈ before := by rw [hps]; simpa using hp
      rw [hB.frozen (hlt _ hp')]
      exact hz b off hp'
    · intro ha
      have := hn ha
      rw [hps] at this
      simpa using this
    · intro p hp _
      rw [hps]
      simpa using hp
end
end Go.Hb
end

-- Args
section
namespace Go.Hb
open Go Go.RowKit
def toksFrom : Nat → List (Option Nat) → List Value
  | _, [] => []
  | o, none :: l => .chan (some o) :: toksFrom (o + 1) l
  | o, some n :: l => .agg ⟨(List.range n).map fun i => .chan (some (o + i))⟩ :: toksFrom (o + n) l
def Fits (s : Option Nat) (v : Value) : Prop :=
  match s with
  | none => v.oneCell' = true
  | some n => ∃ cs, v = .agg cs ∧ cs.size = n ∧ ∀ (i : Nat) u, cs[i]? = some u → u.oneCell' = true
def FitsL : List (Option Nat) → List Value → Prop
  | [], [] => True
  | s :: l, v :: vs => Fits s v ∧ FitsL l vs
  | _, _ => False
def cellsOfL (vs : List Value) : List Value := vs.flatMap fun v => v.cells.toList
def tokT (vs : List Value) (j : Nat) : Value := ((cellsOfL vs)[j]?).getD (.bool true)
theorem cells_one {v : Value} (h : v.oneCell' = true) : v.cells = #[v] := by
  cases v <;> simp_all [Value.oneCell', Value.cells]
theorem fits_cells : ∀ {sh : List (Option Nat)} {vs : List Value}, FitsL sh vs → ∀ u ∈ cellsOfL vs, u.oneCell' = true
  | [], [], _, u, hu => by cases hu
  | s :: l, v :: vs, h, u, hu => by
    unfold cellsOfL at hu
    rw [List.flatMap_cons, List.mem_append] at hu
    rcases hu with hu | hu
    · cases s with
      | none =>
        have h1 : v.oneCell' = true := h.1
        rw [cells_one h1] at hu
        simp at hu
        rw [hu]; exact h1
      | some n =>
        obtain ⟨cs, rfl, _, h3⟩ := h.1
        have hu' : u ∈ cs.toList := hu
        obtain ⟨i, hi, rfl⟩ := List.getElem_of_mem hu'
        exact h3 i _ (by simp at hi ⊢)
    · exact fits_cells h.2 u hu
  | [], _ :: _, h, _, _ => h.elim
  | _ :: _, [], h, _, _ => h.elim
theorem tokT_one {sh : List (Option Nat)} {vs : List Value} (h : FitsL sh vs) (j : Nat) : (tokT vs j).oneCell' = true := by
  unfold tokT
  cases hj : (cellsOfL vs)[j]? with
  | none => rfl
  | some u => exact fits_cells h u (List.mem_of_getElem? hj)
theorem toks_rel {σ : Nat → Loc} : ∀ {sh : List (Option Nat)} {vs : List Value} (F pre post : List Value) (τ : Nat → Value), F = pre ++ cellsOfL vs ++ post → (∀ j u, F[j]? = some u → τ j = u) → FitsL sh vs → LR σ τ (toksFrom pre.length sh) vs
  | [], [], F, pre, post, τ, hF, hτ, _ => LR.nil
  | none :: l, v :: vs, F, pre, post, τ, hF, hτ, h => by
    have h1 : v.oneCell' = true := h.1
    have hc : cellsOfL (v :: vs) = v :: cellsOfL vs := by unfold cellsOfL; rw [List.flatMap_cons, cells_one h1]; rfl
    have ih := toks_rel (σ := σ) F (pre ++ [v]) post τ (by rw [hF, hc]; simp) hτ h.2
    rw [List.length_append] at ih
    refine LR.cons ?_ ih
    have : τ pre.length = v := hτ _ _ (by rw [hF, hc]; simp)
    have hv := VR.tok (σ := σ) (τ := τ) pre.length
    rw [this] at hv; exact hv
  | some n :: l, v :: vs, F, pre, post, τ, hF, hτ, h => by
    obtain ⟨cs, rfl, hn, _⟩ := h.1
    have hc : cellsOfL (.agg cs :: vs) = cs.toList ++ cellsOfL vs := by unfold cellsOfL; rw [List.flatMap_cons]; rfl
    have ih := toks_rel (σ := σ) F (pre ++ cs.toList) post τ (by rw [hF, hc]; simp) hτ h.2
    have hl : (pre ++ cs.toList).length = pre.length + n := by simp [hn]
    rw [hl] at ih
    refine LR.cons (RA.mk_agg ⟨by simp [hn], fun i a a' ha ha' => ?_⟩) ih
    have hlt : i < cs.size := (Array.getElem?_eq_some_iff.1 (by simpa using ha')).1
    simp only [List.getElem?_map, Option.map_eq_some_iff] at ha
    obtain ⟨k, hk, rfl⟩ := ha
    rw [List.getElem?_range (by omega)] at hk
    cases hk
    have : τ (pre.length + i) = a' := hτ _ _ (by
      rw [hF, hc, List.append_assoc, List.getElem?_append_right (by omega), Nat.add_sub_cancel_left, List.append_assoc, List.getElem?_append_left (by simpa using hlt)]
      exact ha')
    have hv := VR.tok (σ := σ) (τ := τ) (pre.length + i)
    rw [this] at hv; exact hv
  | [], _ :: _, _, _, _, _, _, _, h => h.elim
  | none :: _, [], _, _, _, _, _, _, h => h.elim
  | some _ :: _, [], _, _, _, _, _, _, h => h.elim
theorem toks_args {σ : Nat → Loc} {sh : List (Option Nat)} {vs : List Value} (h : FitsL sh vs) : LR σ (tokT vs) (toksFrom 0 sh) vs :=
  toks_rel (cellsOfL vs) [] [] (tokT vs) (by simp) (fun j u hj => by unfold tokT; rw [hj]; rfl) h
theorem cell_one {P : Program} {w : World} {r : Reach} {base : Nat} {t : TypeId} {v : Value} (h : Cell.okWide P w r base t v) : v.oneCell' = true := by
  cases v with
  | agg cs => unfold Cell.okWide Cell.ok at h; cases hu : P.underlying t with
    | none => simp [hu] at h
    | some d => cases d <;> simp [hu] at h
  | tuple cs => unfold Cell.okWide Cell.ok at h; cases hu : P.underlying t with
    | none => simp [hu] at h
    | some d => cases d <;> simp [hu] at h
  | _ => rfl
end Go.Hb
end

-- Args2
section
namespace Go.Hb
open Go Go.RowKit Go.ChangeShapes Go.WideShapes
section
variable {H : Type} {enc : TypeId × Value → H} {P : Program}
theorem trodAll_stays (hl : laidOutB P = true) {W W' : World} (hB : Below W.heap.size W W') (sp : Nat → Bool) : ∀ {ts : List TypeId} {vs : List Value} {ds : List (DataW H)} {ps : List MemPlace},
    (∀ t ∈ ts, P.readableRec t = true ∧ t < P.types.size) → DataW.TrodAll enc P W 0 (fun _ => true) true ts vs ds ps → (∀ x ∈ ps, x.block < W.heap.size) → (∀ x ∈ ps, sp x.block = true) → DataW.TrodAll enc P W' 0 sp true ts vs ds ps
  | [], vs, ds, ps, _, h, _, _ => by
    obtain ⟨rfl, rfl, rfl⟩ := trodAll_nil h
    exact trodAll_mk0
  | t :: ts, vs, ds, ps, ht, h, hlt, hsp => by
    obtain ⟨v, vs1, d, ds1, p, q, rfl, rfl, rfl, h1, h2⟩ := trodAll_cons h
    exact trodAll_cons_mk (WideElems.Trod_stays hl (ht t (by simp)).1 (ht t (by simp)).2 h1 (fun x hx => hB.same (hlt x (by simp [hx]))) (fun x hx => hsp x (by simp [hx])))
      (trodAll_stays hl hB sp (fun u hu => ht u (by simp [hu])) h2 (fun x hx => hlt x (by simp [hx])) (fun x hx => hsp x (by simp [hx])))
theorem contract_of {f : FuncId} {fn : Func} {s : ChangeSpec} {W : World} {args : Array Value} {ds gs : List (DataW H)} {before : List MemPlace}
    (hl : laidOutB P = true) (hts : fn.params.toList.all (fun t => P.readableRec t && decide (t < P.types.size)) = true) (hvs : s.vars = []) (hr : fn.resultTypes = #[4]) (hb : P.underlying 4 = some .bool)
    (hfn : ∀ ds : List (DataW H), ds.length = fn.params.size → (s.fn H (ds ++ [])).results = [.lit (.bool true)] ∧ (s.fn H (ds ++ [])).args = ds ∧ (s.fn H (ds ++ [])).vars = [])
    (hW : DataW.Whole enc P fn.params.toList s.vars false W args.toList ds gs before)
    (hc : Calls P f args W fun e W' => e = .returned (.bool true) ∧ Below W.heap.size W W') :
    Calls P f args W fun e W' => ∃ v, e = .returned v ∧ s.post enc P fn false true false false W args v W' := by
  have hW' := hW
  obtain ⟨p, q, hA, hV, rfl, hfz, hnd⟩ := hW
  rw [hvs] at hV
  obtain ⟨rfl, rfl⟩ := trodVars_none hV
  have hlen : ∀ {ts : List TypeId} {vs : List Value} {ds : List (DataW H)} {ps : List MemPlace}, DataW.TrodAll enc P W 0 (fun _ => true) true ts vs ds ps → ds.length = ts.length := by
    intro ts
    induction ts with
    | nil => intro vs ds ps h; obtain ⟨_, rfl, _⟩ := trodAll_nil h; rfl
    | cons t ts ih => intro vs ds ps h; obtain ⟨v, vs1, d, ds1, p, q, rfl, rfl, rfl, h1, h2⟩ := trodAll_cons h; simp [ih h2]
  obtain ⟨e1, e2, e3⟩ := hfn ds (by rw [hlen hA]; simp)
  refine hc.mono fun e W' ⟨he, hB⟩ => ?_
  subst he
  refine ⟨_, rfl, post_of_below (pa := p) (pv := []) hW' (fun _ _ _ => ?_) (fun sp hsp => ?_) (fun _ _ => ?_) rfl hB (ok_one hr rfl (okWide_bool_mk hb _))⟩
  · rw [e1, hr]; exact trodAll_cons_mk (shut_bool hb _) trodAll_mk0
  · rw [e2]
    refine trodAll_stays hl hB sp (fun t ht => ?_) hA (fun x hx => hW'.lt x (by simp [hx])) (fun x hx => hsp x (by simp [hx]))
    have := List.all_eq_true.1 hts t ht
    simpa using this
  · rw [e3, hvs]; rfl
def shOf (P : Program) (t : TypeId) : Option Nat :=
  match P.underlying t with
  | some (.struct _) | some (.array _ _) => some (P.cellsOf t)
  | _ => none
theorem fits_of {w : World} {r : Reach} {base : Nat} {t : TypeId} {v : Value} (h : Value.okWide P w r base t v) : Fits (shOf P t) v := by
  unfold Value.okWide at h
  unfold shOf
  split at h
  · rename_i fs hu
    rw [hu]
    obtain ⟨cs, rfl, hs, ts, _, _, hc⟩ := h
    exact ⟨cs, rfl, hs, fun i u hi => let ⟨_, _, hk⟩ := hc i u hi; cell_one hk⟩
  · rename_i n e hu
    rw [hu]
    obtain ⟨cs, rfl, hs, ts, _, _, hc⟩ := h
    exact ⟨cs, rfl, hs, fun i u hi => let ⟨_, _, hk⟩ := hc i u hi; cell_one hk⟩
  · rename_i h1 h2
    split
    · rename_i fs hu; exact absurd hu (h1 fs)
    · rename_i n e hu; exact absurd hu (h2 n e)
    · exact cell_one h
theorem fitsL_of {w : World} {r : Reach} {base : Nat} : ∀ {ts : List TypeId} {vs : List Value}, ts.length = vs.length → (∀ (j : Nat) t v, ts[j]? = some t → vs[j]? = some v → Value.okWide P w r base t v) → FitsL (ts.map (shOf P)) vs
  | [], [], _, _ => trivial
  | t :: ts, v :: vs, hl, h => ⟨fits_of (h 0 t v rfl rfl), fitsL_of (by simpa using hl) fun j u x hu hx => h (j + 1) u x (by simpa using hu) (by simpa using hx)⟩
  | [], _ :: _, hl, _ => by simp at hl
  | _ :: _, [], hl, _ => by simp at hl
end
end Go.Hb
end

-- Ev
section
namespace Go.Hb
open Go Go.RowKit
def Upon {α : Type} (f : Nat → Option α) (Q : α → Prop) : Prop := ∃ N r, (∀ n, N ≤ n → f n = some r) ∧ Q r
theorem Upon.mono {α : Type} {f : Nat → Option α} {Q R : α → Prop} (h : Upon f Q) (k : ∀ r, Q r → R r) : Upon f R := by
  obtain ⟨N, r, h1, h2⟩ := h; exact ⟨N, r, h1, k r h2⟩
theorem Upon.now {α : Type} {f : Nat → Option α} {Q : α → Prop} {r : α} (h : ∀ n, f (n + 1) = some r) (hq : Q r) : Upon f Q :=
  ⟨1, r, fun n hn => by obtain ⟨m, rfl⟩ : ∃ m, n = m + 1 := ⟨n - 1, by omega⟩; exact h m, hq⟩
theorem Upon.step {α β : Type} {f : Nat → Option α} {g : Nat → Option β} {R : α → Prop} {Q : β → Prop} (k : Nat → α → Option β) (hg : ∀ n r, f n = some r → g (n + 1) = k n r)
    (hf : Upon f R) (hk : ∀ r, R r → Upon (fun n => k n r) Q) : Upon g Q := by
  obtain ⟨N, r, h1, h2⟩ := hf
  obtain ⟨M, q, h3, h4⟩ := hk r h2
  refine ⟨max N M + 1, q, fun n hn => ?_, h4⟩
  obtain ⟨m, rfl⟩ : ∃ m, n = m + 1 := ⟨n - 1, by omega⟩
  rw [hg m r (h1 m (by omega))]
  exact h3 m (by omega)
theorem Upon.go {α : Type} {f g : Nat → Option α} {Q : α → Prop} (hg : ∀ n, g (n + 1) = f n) (hf : Upon f Q) : Upon g Q := by
  obtain ⟨N, r, h1, h2⟩ := hf
  refine ⟨N + 1, r, fun n hn => ?_, h2⟩
  obtain ⟨m, rfl⟩ : ∃ m, n = m + 1 := ⟨n - 1, by omega⟩
  rw [hg]; exact h1 m (by omega)
section
variable (P : Program) (ok : Ok) (x : Ctx)
def EvC (c : Code) (st : St) (Q : Ex → St → Prop) : Prop := Upon (fun n => dcode P ok n x c st) fun p => Q p.1 p.2
def EvO (ops : Array Oper) (l : List Nat) (st : St) (Q : Ex → St → Prop) : Prop := Upon (fun n => dops P ok n x ops l st) fun p => Q p.1 p.2
def EvF (f : FuncId) (args : List Value) (H : Heap) (K : Value → Heap → Prop) : Prop := Upon (fun n => dcall P ok n f args H) fun p => ∃ v, p.1 = .ret v ∧ K v p.2
def EvV (fn : Func) (tm : Tr Value) (ds : List Deferred) (H : Heap) (K : Value → Heap → Prop) : Prop := Upon (fun n => dleave P ok n fn tm ds none H) fun p => ∃ v, p.1 = .ret v ∧ K v p.2
def Ev1 (o : Oper) (ρ : Operand → Value) (ds : List Deferred) (H : Heap) (K : Value → List Deferred → Heap → Prop) : Prop :=
  Upon (fun n => dop1 P ok n x o ρ ds H) fun r => ∃ v ds' H', r = .val v ds' H' ∧ K v ds' H'
def EvR (l : Nat) (args : List Value) (H : Heap) (K : Value → Heap → Prop) : Prop := Upon (fun n => dround P ok n l args H) fun p => K p.1 p.2
def EvL (ops : Array Oper) : List Oper → St → (St → Prop) → Prop
  | [], st, Q => Q st
  | o :: os, st, Q =>
    (dwanted ops st.tm o = some false ∧ EvL ops os ⟨putD st.tm o.dst undef, st.ds, st.H⟩ Q) ∨
    (dwanted ops st.tm o = some true ∧ Ev1 P ok x o (ev st.tm) st.ds st.H fun v ds H => EvL ops os ⟨putD st.tm o.dst v, ds, H⟩ Q)
end
def Ex.thenC (k : St → Prop) (Q : Ex → St → Prop) : Ex → St → Prop
  | .normal, st => k st
  | e, st => Q e st
def Ex.inBlock (id : Nat) (Q : Ex → St → Prop) : Ex → St → Prop
  | .exit j, st => if j = id then Q .normal st else Q (.exit j) st
  | e, st => Q e st
def Ex.leave (P : Program) (ok : Ok) (fn : Func) (K : Value → Heap → Prop) : Ex → St → Prop
  | .normal, st | .ret, st => EvV P ok fn st.tm st.ds st.H K
  | _, _ => False
section
variable {P : Program} {ok : Ok} {x : Ctx} {st : St} {Q : Ex → St → Prop}
theorem EvC.mono {c : Code} {R : Ex → St → Prop} (h : EvC P ok x c st Q) (k : ∀ e st, Q e st → R e st) : EvC P ok x c st R := Upon.mono h fun _ hq => k _ _ hq
theorem EvF.mono {f : FuncId} {args : List Value} {H : Heap} {K L : Value → Heap → Prop} (h : EvF P ok f args H K) (k : ∀ v H', K v H' → L v H') : EvF P ok f args H L :=
  Upon.mono h fun _ ⟨v, e, hq⟩ => ⟨v, e, k _ _ hq⟩
theorem Ev1.mono {o : Oper} {ρ : Operand → Value} {ds : List Deferred} {H : Heap} {K L : Value → List Deferred → Heap → Prop} (h : Ev1 P ok x o ρ ds H K) (k : ∀ v d H', K v d H' → L v d H') : Ev1 P ok x o ρ ds H L :=
  Upon.mono h fun _ ⟨v, ds', H', e, hq⟩ => ⟨v, ds', H', e, k _ _ _ hq⟩
theorem EvC.skip (h : Q .normal st) : EvC P ok x .skip st Q := Upon.now (fun n => by rw [dcode]) h
theorem EvC.exit {id : Nat} (h : Q (.exit id) st) : EvC P ok x (.exit id) st Q := Upon.now (fun n => by rw [dcode]) h
theorem EvC.ret (h : Q .ret st) : EvC P ok x .ret st Q := Upon.now (fun n => by rw [dcode]) h
theorem EvC.scope {c : Code} (h : EvC P ok x c st Q) : EvC P ok x (.scope c) st Q := Upon.go (fun n => by rw [dcode]) h
theorem EvC.seq {a b : Code} (h : EvC P ok x a st (Ex.thenC (fun st1 => EvC P ok x b st1 Q) Q)) : EvC P ok x (.seq a b) st Q := by
  refine Upon.step (fun n (r : Ex × St) => match r with | (.normal, st1) => dcode P ok n x b st1 | r => some r) (fun n r hr => ?_) h ?_
  · rw [dcode, hr]
    obtain ⟨e, s⟩ := r
    cases e <;> rfl
  · rintro ⟨e, s⟩ hq
    cases e with
    | normal => exact hq
    | _ => exact ⟨0, _, fun n _ => rfl, hq⟩
theorem EvC.condT {c : Operand} {a b : Code} (hc : ev st.tm c = .bool true) (h : EvC P ok x a st Q) : EvC P ok x (.cond c a b) st Q := Upon.go (fun n => by rw [dcode, hc]) h
theorem EvC.condF {c : Operand} {a b : Code} (hc : ev st.tm c = .bool false) (h : EvC P ok x b st Q) : EvC P ok x (.cond c a b) st Q := Upon.go (fun n => by rw [dcode, hc]) h
theorem EvC.cond {c : Operand} {a b : Code} (t : Bool) (hc : ev st.tm c = .bool t) (h1 : t = true → EvC P ok x a st Q) (h2 : t = false → EvC P ok x b st Q) : EvC P ok x (.cond c a b) st Q := by
  cases t with
  | true => exact .condT hc (h1 rfl)
  | false => exact .condF hc (h2 rfl)
theorem EvC.block {id : Nat} {b : Code} (h : EvC P ok x b st (Ex.inBlock id Q)) : EvC P ok x (.block id b) st Q := by
  refine Upon.step (fun n (r : Ex × St) => match r with | (.exit j, st1) => if Nat.beq j id then some (.normal, st1) else some (.exit j, st1) | r => some r) (fun n r hr => ?_) h ?_
  · rw [dcode, hr]
    obtain ⟨e, s⟩ := r
    cases e <;> rfl
  · rintro ⟨e, s⟩ hq
    cases e with
    | exit j =>
      simp only [Ex.inBlock] at hq
      by_cases hj : j = id
      · rw [if_pos hj] at hq
        exact ⟨0, _, fun n _ => by simp only [hj, Nat.beq_refl, if_true]; rfl, hq⟩
      · rw [if_neg hj] at hq
        have : Nat.beq j id = false := by rw [← Bool.not_eq_true, Nat.beq_eq]; exact hj
        exact ⟨0, _, fun n _ => by simp only [this]; rfl, hq⟩
    | _ => exact ⟨0, _, fun n _ => rfl, hq⟩
theorem EvC.loop1 {b : Code} (hb : mapShape b = none) (h : EvC P ok x b st (Ex.thenC (fun st1 => EvC P ok x (.loop b) st1 Q) Q)) : EvC P ok x (.loop b) st Q := by
  refine Upon.step (fun n (r : Ex × St) => match r with | (.normal, st1) => dcode P ok n x (.loop b) st1 | r => some r) (fun n r hr => ?_) h ?_
  · rw [dcode, hb]
    simp only [hr]
    obtain ⟨e, s⟩ := r
    cases e <;> rfl
  · rintro ⟨e, s⟩ hq
    cases e with
    | normal => exact hq
    | _ => exact ⟨0, _, fun n _ => rfl, hq⟩
theorem EvC.loop {b : Code} (I : Nat → St → Prop) (hI : ∀ k st, I k st → EvC P ok x b st (Ex.thenC (fun st1 => ∃ k', k' < k ∧ I k' st1) Q)) (k : Nat) (st : St) (h : I k st) (hb : mapShape b = none := by rfl) : EvC P ok x (.loop b) st Q := by
  induction k using Nat.strongRecOn generalizing st with
  | _ k ih =>
    refine EvC.loop1 hb ((hI k st h).mono fun e st1 hq => ?_)
    cases e with
    | normal => obtain ⟨k', hk, hI'⟩ := hq; exact ih k' hk st1 hI'
    | _ => exact hq
theorem EvO.nil {ops : Array Oper} (h : Q .normal st) : EvO P ok x ops [] st Q := Upon.now (fun n => by rw [dops]) h
theorem EvO.of_list {ops : Array Oper} {K : St → Prop} (hQ : ∀ st, K st → Q .normal st) : ∀ (l : List Nat) (os : List Oper) (st : St), l.map (fun i => ops[i]?) = os.map some → EvL P ok x ops os st K → EvO P ok x ops l st Q
  | [], [], st, _, h => EvO.nil (hQ _ h)
  | [], _ :: _, _, h, _ => by simp at h
  | _ :: _, [], _, h, _ => by simp at h
  | i :: l, o :: os, st, hl, h => by
    simp only [List.map_cons, List.cons.injEq] at hl
    rcases h with ⟨hw, h⟩ | ⟨hw, h⟩
    · refine Upon.go (fun n => ?_) (EvO.of_list hQ l os _ hl.2 h)
      rw [dops, hl.1]
      simp only [hw]
      cases o.dst <;> rfl
    · refine Upon.step (fun n r => match r with | .val v ds H => dops P ok n x ops l (St.put ⟨st.tm, ds, st.H⟩ o.dst v H) | .panic ch H => some (.panic ch, ⟨st.tm, st.ds, H⟩)) (fun n r hr => ?_) h ?_
      · rw [dops, hl.1]
        simp only [hw, hr]
        cases r <;> rfl
      · rintro r ⟨v, ds, H, rfl, hr⟩
        have := EvO.of_list hQ l os _ hl.2 hr
        refine this.imp fun N => ?_
        rintro ⟨r, h1, h2⟩
        refine ⟨r, fun n hn => ?_, h2⟩
        rw [← h1 n hn]
        cases o.dst <;> rfl
theorem range_opers (ops : Array Oper) : (List.range ops.size).map (fun i => ops[i]?) = ops.toList.map some := by
  apply List.ext_getElem?
  intro i
  simp only [List.getElem?_map, List.getElem?_range]
  by_cases h : i < ops.size
  · simp [h]
  · simp [h]
theorem EvC.ops {id : Nat} {ops : Array Oper} (h : EvL P ok x ops ops.toList st (Q .normal)) : EvC P ok x (.region id ops false) st Q :=
  Upon.go (fun n => by rw [dcode]) (EvO.of_list (K := Q .normal) (fun _ h => h) _ _ st (range_opers ops) h)
theorem Ev1.val {o : Oper} {ρ : Operand → Value} {ds : List Deferred} {H H' : Heap} {v : Value} {K : Value → List Deferred → Heap → Prop} (h : dop P o ρ H = some (.val v H')) (hk : K v ds H') : Ev1 P ok x o ρ ds H K :=
  Upon.now (r := .val v ds H') (fun n => by rw [dop1, h]) ⟨v, ds, H', rfl, hk⟩
theorem Ev1.call {o : Oper} {ρ : Operand → Value} {ds : List Deferred} {H : Heap} {f : FuncId} {args : List Value} {K : Value → List Deferred → Heap → Prop} (h : dop P o ρ H = some (.call f args))
    (hk : EvF P ok f args H fun v H' => K v ds H') : Ev1 P ok x o ρ ds H K := by
  refine Upon.step (fun n (r : En × Heap) => match r with | (.ret v, H') => some (.val v ds H') | (.panic ch, H') => some (.panic ch H')) (fun n r hr => ?_) hk ?_
  · rw [dop1, h]
    simp only [hr]
    obtain ⟨e, H'⟩ := r
    cases e <;> rfl
  · rintro ⟨e, H'⟩ ⟨v, rfl, hv⟩
    exact ⟨0, _, fun n _ => rfl, v, ds, H', rfl, hv⟩
theorem Ev1.yield {o : Oper} {ρ : Operand → Value} {ds : List Deferred} {H : Heap} {l : Nat} {args : List Value} {K : Value → List Deferred → Heap → Prop} (h : dop P o ρ H = some (.yield l args))
    (hk : EvR P ok l args H fun v H' => K v ds H') : Ev1 P ok x o ρ ds H K := by
  refine Upon.step (fun n (r : Value × Heap) => some (.val r.1 ds r.2)) (fun n r hr => ?_) hk ?_
  · rw [dop1, h]
    simp only [hr]
  · rintro ⟨v, H'⟩ hv
    exact ⟨0, _, fun n _ => rfl, v, ds, H', rfl, hv⟩
section
variable {ops : Array Oper} {os : List Oper} {tm : Tr Value} {ds : List Deferred} {H : Heap} {K : St → Prop} {op : Op} {ty : TypeId} {pos : String} {af : Array Edge}
theorem EvL.val {d : Tmp} {v : Value} {H' : Heap} (h : dop P ⟨some d, op, ty, pos, af, none⟩ (ev tm) H = some (.val v H')) (hk : EvL P ok x ops os ⟨tm.put d (some v), ds, H'⟩ K) :
    EvL P ok x ops (⟨some d, op, ty, pos, af, none⟩ :: os) ⟨tm, ds, H⟩ K := .inr ⟨rfl, Ev1.val h hk⟩
theorem EvL.call {d : Tmp} {f : FuncId} {args : List Value} (h : dop P ⟨some d, op, ty, pos, af, none⟩ (ev tm) H = some (.call f args))
    (hk : EvF P ok f args H fun v H' => EvL P ok x ops os ⟨tm.put d (some v), ds, H'⟩ K) : EvL P ok x ops (⟨some d, op, ty, pos, af, none⟩ :: os) ⟨tm, ds, H⟩ K := .inr ⟨rfl, Ev1.call h hk⟩
end
theorem EvF.enter {f : FuncId} {fn : Func} {c : Code} {args : List Value} {H : Heap} {K : Value → Heap → Prop} (hK : ok.K f args H = none) (hf : P.funcs[f]? = some fn) (hm : ok.testBit f = true) (hb : fn.body = some c)
    (h : EvC P ok ⟨f, none⟩ c ⟨initTm 0 args .nil, [], H⟩ (Ex.leave P ok fn K)) : EvF P ok f args H K := by
  refine Upon.step (fun n (r : Ex × St) => match r with | (.normal, st) | (.ret, st) => dleave P ok n fn st.tm st.ds none st.H | (.panic ch, st) => dleave P ok n fn st.tm st.ds (some ch) st.H | _ => none) (fun n r hr => ?_) h ?_
  · rw [dcall, hK]
    simp only [hf, hm, hb, hr]
    obtain ⟨e, s⟩ := r
    cases e <;> rfl
  · rintro ⟨e, s⟩ hq
    cases e with
    | normal => exact hq
    | ret => exact hq
    | exit _ => exact hq.elim
    | panic _ => exact hq.elim
theorem EvF.know {f : FuncId} {args : List Value} {H H' : Heap} {v : Value} {K : Value → Heap → Prop} (hK : ok.K f args H = some (.ret v, H')) (h : K v H') : EvF P ok f args H K :=
  Upon.now (r := (.ret v, H')) (fun n => by rw [dcall, hK]) ⟨v, rfl, h⟩
theorem EvV.now {fn : Func} {tm : Tr Value} {H : Heap} {v : Value} {K : Value → Heap → Prop} (hr : dres P fn tm H = some v) (h : K v H) : EvV P ok fn tm [] H K :=
  Upon.now (r := (.ret v, H)) (fun n => by rw [dleave, hr]) ⟨v, rfl, h⟩
theorem EvV.mark {fn : Func} {tm : Tr Value} {ds : List Deferred} {l : Nat} {args : Array Value} {H : Heap} {K : Value → Heap → Prop} (hg : H.get l = some .dfr) (h : EvV P ok fn tm ds (H.put l none) K) :
    EvV P ok fn tm (⟨.collected l, args⟩ :: ds) H K :=
  Upon.go (fun n => by rw [dleave]; simp only [hg]) h
end
end Go.Hb
end

-- Start
section
namespace Go.Hb
open Go Go.RowKit
def deadAt (P : Program) (W : World) : Nat := max P.globals.size W.heap.size
def ab (P : Program) (W : World) : Value → Value
  | .pointer (some a) => if a.spot = none ∧ a.block < W.heap.size then .pointer (some a) else .pointer (some ⟨deadAt P W, 0, none⟩)
  | .slice (some a) n c => if n ≤ c ∧ c ≤ maxLen then (if a.spot = none ∧ a.block < W.heap.size then .slice (some a) n c else .slice (some ⟨deadAt P W, 0, none⟩) n c) else junk
  | .map (some _) => .map (some (deadAt P W))
  | v => if flat v then v else junk
def abV (P : Program) (W : World) : Value → Value
  | .agg ⟨cs⟩ => .agg ⟨cs.map (ab P W)⟩
  | v => ab P W v
def mkTr (f : Nat → Option Blk) : Nat → Tr Blk
  | 0 => .nil
  | n + 1 => (mkTr f n).put n (f n)
theorem mkTr_get (f : Nat → Option Blk) : ∀ n i, (mkTr f n).get i = if i < n then f i else none
  | 0, i => by simp [mkTr, Tr.get]
  | n + 1, i => by
    rw [mkTr, Tr.get_put, mkTr_get f n i]
    by_cases h : i = n
    · rw [if_pos h, if_pos (by omega), h]
    · rw [if_neg h]
      by_cases h2 : i < n
      · rw [if_pos h2, if_pos (by omega)]
      · rw [if_neg h2, if_neg (by omega)]
def blkW (P : Program) (W : World) (i : Nat) : Option Blk :=
  match W.heap[i]? with
  | some (.cells cs t _) => some (.ro (cs.toList.map (ab P W)) t)
  | _ => none
def heapW (P : Program) (W : World) : Heap := ⟨deadAt P W + 1, mkTr (blkW P W) W.heap.size⟩
def sigW (P : Program) (W : World) : Nat → Loc := fun i => if i < W.heap.size then .live i 0 0 else if i < deadAt P W + 1 then .dead else .none
def tauW : Nat → Value := fun _ => .bool true
section
variable {P : Program} {W : World}
theorem heapW_get (i : Nat) : (heapW P W).get i = if i < W.heap.size then blkW P W i else none := mkTr_get _ _ _
theorem sigW_dead : sigW P W (deadAt P W) = .dead := by
  unfold sigW
  rw [if_neg (by unfold deadAt; omega), if_pos (by omega)]
theorem sigW_lt {b : Nat} (h : b < W.heap.size) : sigW P W b = .live b 0 0 := by unfold sigW; rw [if_pos h]
theorem ab_rel (v : Value) : VR (sigW P W) tauW (ab P W v) v := by
  have dead : ∀ a : Addr, AR (sigW P W) ⟨deadAt P W, 0, none⟩ a := fun a => by unfold AR; simp only [sigW_dead]
  have live : ∀ a : Addr, a.spot = none ∧ a.block < W.heap.size → AR (sigW P W) a a := fun a h => by
    unfold AR; rw [h.1]; simp only [sigW_lt h.2]
    obtain ⟨b, o, s⟩ := a
    obtain rfl : s = none := h.1
    exact ⟨rfl, rfl⟩
  have rest : ∀ v : Value, VR (sigW P W) tauW (if flat v then v else junk) v := fun v => by
    split
    · rename_i h; exact .flat _ h
    · exact .junk _
  unfold ab
  split
  · split
    · rename_i h; exact .ptr _ _ (live _ h)
    · exact .ptr _ _ (dead _)
  · split
    · rename_i h
      split
      · rename_i h2
        refine .slice _ _ _ _ _ (live _ h2) h.1 (Nat.le_refl _) ⟨h.2, fun _ b S es hb => ?_⟩
        rw [sigW_lt h2.2] at hb
        cases hb
        exact fun e => absurd rfl e
      · refine .slice _ _ _ _ _ (dead _) h.1 (Nat.le_refl _) ⟨h.2, fun _ b S es hb => ?_⟩
        simp only [sigW_dead] at hb
        cases hb
    · exact .junk _
  · refine .map _ _ ?_
    unfold BR; rw [sigW_dead]; trivial
  · exact rest _
theorem abL_rel (l : List Value) : LR (sigW P W) tauW (l.map (ab P W)) l :=
  ⟨by simp, fun i v v' h h' => by
    rw [List.getElem?_map, h'] at h
    simp only [Option.map_some, Option.some.injEq] at h
    subst h; exact ab_rel v'⟩
theorem HR.world : HR P W.heap.size W tauW (sigW P W) (heapW P W) W := by
  refine ⟨Below.refl _ _, Nat.le_refl _, fun i hi => ?_, fun i B hB => ?_, fun i j b S es S' es' hi hj => ?_, fun i b S es hi => ?_⟩
  · have hi' : deadAt P W + 1 ≤ i := hi
    unfold sigW
    have : W.heap.size ≤ deadAt P W := by unfold deadAt; omega
    rw [if_neg (by omega), if_neg (by omega)]
  · rw [heapW_get] at hB
    split at hB
    · rename_i hlt
      unfold blkW at hB
      split at hB
      · rename_i cs t fr hw
        cases hB
        rw [sigW_lt hlt]
        refine .ro i 0 _ t cs fr hlt hw ?_
        unfold PR
        rw [List.length_map, List.take_length]
        exact abL_rel _
      · cases hB
    · cases hB
  · unfold sigW at hi hj
    split at hi
    · split at hj
      · cases hi; cases hj; rfl
      · split at hj <;> cases hj
    · split at hi <;> cases hi
  · unfold sigW at hi
    split at hi
    · cases hi; assumption
    · split at hi <;> cases hi
theorem GR.world : GR P (sigW P W) := fun g hg => by
  by_cases h : g < W.heap.size
  · exact .inr ⟨0, 0, sigW_lt h⟩
  · refine .inl ?_
    unfold sigW
    rw [if_neg h, if_pos (by unfold deadAt; omega)]
end
end Go.Hb
end

-- EvD
section
namespace Go.Hb
open Go Go.RowKit
def schedGo (n : Nat) (b : Array Nat) (effs : List Nat) : List Nat → Nat → List (List Nat × Option Nat)
  | [], done => [((List.range n).filter fun i => !done.testBit i && !effs.contains i, none)]
  | e :: es, done => (pending (List.range n) effs (b.getD e 0) done, some e) :: schedGo n b effs es (done ||| b.getD e 0 ||| 2 ^ e)
def effsOf (ops : Array Oper) : List Nat := (List.range ops.size).filter fun i => match ops[i]? with | some o => isEff o | none => false
def noTwin (b : Array Nat) : List Nat → Bool
  | [] => true
  | e :: es => (twin b (e :: es)).isNone && noTwin b es
def sched (ops : Array Oper) : List (List (Nat × Nat) × Option Nat) :=
  if noTwin (Region.before ops) (effsOf ops) = false then [] else (schedGo ops.size (Region.before ops) (effsOf ops) (effsOf ops) 0).map fun p => (p.1.map fun i => (i, effsIn (effsOf ops) ((Region.before ops).getD i 0)), p.2)
section
variable (P : Program) (ok : Ok) (x : Ctx) (ops : Array Oper) (base : Nat)
def EvN (hs : List Heap) : List (Nat × Nat) → Tr Value → Heap → (Tr Value → Heap → Prop) → Prop
  | [], tm, H, K => K tm H
  | (i, k) :: L, tm, H, K => ∃ o, ops.toList[i]? = some o ∧
    ((dwanted ops tm o = some false ∧ EvN hs L (putD tm o.dst undef) H K) ∨
     (dwanted ops tm o = some true ∧ isAlloc o = true ∧ ∃ B mk, dalloc P o (ev tm) = some (B, mk) ∧ EvN hs L (putD tm o.dst (mk (base + i))) (H.put (base + i) (some B)) K) ∨
     (dwanted ops tm o = some true ∧ isAlloc o = false ∧ ∃ v G gs G', hs = G :: gs ∧ dop P o (ev tm) G = some (.val v G') ∧
       (isRead o = false ∨ (G'.next = G.next ∧ sameOn P o (ev tm) v (gs.take (gs.length - k)) = true)) ∧ EvN hs L (putD tm o.dst v) H K))
def EvS : List (List (Nat × Nat) × Option Nat) → List Heap → Tr Value → List Deferred → (St → Prop) → Prop
  | [], _, _, _, _ => False
  | (L, none) :: _, hs, tm, ds, K => ∃ G gs, hs = G :: gs ∧ EvN P ops base hs L tm G fun tm1 H1 => K ⟨tm1, ds, H1⟩
  | (L, some e) :: S, hs, tm, ds, K => ∃ G gs o, hs = G :: gs ∧ ops.toList[e]? = some o ∧ EvN P ops base hs L tm G fun tm1 H1 =>
    (dwanted ops tm1 o = some false ∧ EvS S (H1 :: hs) (putD tm1 o.dst undef) ds K) ∨
    (dwanted ops tm1 o = some true ∧ Ev1 P ok x o (ev tm1) ds H1 fun v ds1 H2 => EvS S (H2 :: hs) (putD tm1 o.dst v) ds1 K)
end
section
variable {P : Program} {ok : Ok} {x : Ctx} {ops : Array Oper} {base : Nat}
theorem dst_tm (tm : Tr Value) (d : Option Tmp) (v : Value) : (match d with | some d => tm.put d (some v) | none => tm) = putD tm d v := by cases d <;> rfl
theorem dnon_of {effs : List Nat} {b : Array Nat} {hs : List Heap} {K : Tr Value → Heap → Prop} : ∀ (L : List Nat) (tm : Tr Value) (H : Heap),
    EvN P ops base hs (L.map fun i => (i, effsIn effs (b.getD i 0))) tm H K → ∃ tm1 H1, dnon P ops b effs base hs L tm H = some (tm1, H1) ∧ K tm1 H1
  | [], tm, H, h => ⟨tm, H, by rw [dnon], h⟩
  | i :: L, tm, H, h => by
    obtain ⟨o, ho, h⟩ := h
    have ho' : ops[i]? = some o := by simpa using ho
    rcases h with ⟨hw, h⟩ | ⟨hw, ha, B, mk, hd, h⟩ | ⟨hw, ha, v, G, gs, G', rfl, hd, hr, h⟩
    · obtain ⟨tm1, H1, e, hk⟩ := dnon_of L _ _ h
      refine ⟨tm1, H1, ?_, hk⟩
      rw [dnon, ho']
      simp only [hw, dst_tm]
      exact e
    · obtain ⟨tm1, H1, e, hk⟩ := dnon_of L _ _ h
      refine ⟨tm1, H1, ?_, hk⟩
      rw [dnon, ho']
      simp only [hw, ha, hd, dst_tm]
      exact e
    · obtain ⟨tm1, H1, e, hk⟩ := dnon_of L _ _ h
      refine ⟨tm1, H1, ?_, hk⟩
      rw [dnon, ho']
      simp only [hw, ha, hd, dst_tm]
      have hc : (!isRead o || (Nat.beq G'.next G.next && sameOn P o (ev tm) v (gs.take (gs.length - effsIn effs (b.getD i 0))))) = true := by
        rcases hr with hr | ⟨h1, h2⟩
        · rw [hr]; rfl
        · rw [h1, h2]; simp
      simp only [hc]
      exact e
def EvDr (P : Program) (ok : Ok) (x : Ctx) (ops : Array Oper) (b : Array Nat) (effs : List Nat) (base : Nat) (es : List Nat) (done : Nat) (hs : List Heap) (tm : Tr Value) (ds : List Deferred) (K : St → Prop) : Prop :=
  Upon (fun n => ddraw P ok n x ops b effs base es done hs tm ds) K
theorem ddraw_of {K : St → Prop} {b : Array Nat} {effs : List Nat} : ∀ (es : List Nat) (done : Nat) (hs : List Heap) (tm : Tr Value) (ds : List Deferred), noTwin b es = true →
    EvS P ok x ops base ((schedGo ops.size b effs es done).map fun p => (p.1.map fun i => (i, effsIn effs (b.getD i 0)), p.2)) hs tm ds K →
    EvDr P ok x ops b effs base es done hs tm ds K
  | [], done, hs, tm, ds, _, h => by
    obtain ⟨G, gs, rfl, h⟩ := h
    obtain ⟨tm1, H1, e, hk⟩ := dnon_of _ _ _ h
    refine Upon.go (f := fun n => dstage P ok n x ops b effs base [] done (G :: gs) tm ds) (fun n => by rw [ddraw]; rfl) (Upon.now (fun n => ?_) hk)
    rw [dstage]
    simp only [e]
  | e :: es, done, hs, tm, ds, ht, h => by
    unfold noTwin at ht
    rw [Bool.and_eq_true, Option.isNone_iff_eq_none] at ht
    refine Upon.go (f := fun n => dstage P ok n x ops b effs base (e :: es) done hs tm ds) (fun n => by rw [ddraw, ht.1]) ?_
    obtain ⟨G, gs, o, rfl, ho, h⟩ := h
    have ho' : ops[e]? = some o := by simpa using ho
    obtain ⟨tm1, H1, en, hk⟩ := dnon_of _ _ _ h
    rcases hk with ⟨hw, hk⟩ | ⟨hw, hk⟩
    · refine Upon.go (fun n => ?_) (ddraw_of es _ _ _ ds ht.2 hk)
      rw [dstage]
      simp only at en
      simp only [en, ho', hw]
      cases o.dst <;> rfl
    · refine Upon.step (fun n r => match r with | .val v ds1 H2 => ddraw P ok n x ops b effs base es (done ||| b.getD e 0 ||| 2 ^ e) (H2 :: G :: gs) (putD tm1 o.dst v) ds1 | _ => none) (fun n r hr => ?_) hk ?_
      · rw [dstage]
        simp only at en
        simp only [en, ho', hw, hr]
        cases r <;> cases o.dst <;> rfl
      · rintro r ⟨v, ds1, H2, rfl, hk⟩
        exact ddraw_of es _ _ _ ds1 ht.2 hk
theorem EvC.draw {id : Nat} {st : St} {Q : Ex → St → Prop} {S : List (List (Nat × Nat) × Option Nat)} (hS : sched ops = S)
    (h : EvS P ok x ops st.H.next S [⟨st.H.next + ops.size, st.H.t⟩] st.tm st.ds (Q .normal)) : EvC P ok x (.region id ops true) st Q := by
  subst hS
  unfold sched at h
  split at h
  · exact h.elim
  rename_i hnt
  rw [Bool.not_eq_false] at hnt
  refine Upon.step (fun n st1 => some (.normal, st1)) (fun n r hr => ?_) (ddraw_of (b := Region.before ops) (effs := effsOf ops) (effsOf ops) 0 [⟨st.H.next + ops.size, st.H.t⟩] st.tm st.ds hnt h) ?_
  · have e : dcode P ok (n + 1) x (.region id ops true) st = (match ddraw P ok n x ops (Region.before ops) (effsOf ops) st.H.next (effsOf ops) 0 [⟨st.H.next + ops.size, st.H.t⟩] st.tm st.ds with
        | some st1 => some (.normal, st1)
        | none => match dpan P (dcall P ok n) (fun es done hs tm => ddraw P ok n x ops (Region.before ops) (effsOf ops) st.H.next es done hs tm st.ds) ops (Region.before ops) (effsOf ops) st.H.next ⟨st.H.next + ops.size, st.H.t⟩ st.tm with
          | some (ch, H') => some (.panic ch, ⟨clr ops st.tm, st.ds, H'⟩)
          | none => none) := by
      rw [dcode]; rfl
    rw [e, hr]
  · intro r hq
    exact ⟨0, _, fun n _ => rfl, hq⟩
end
end Go.Hb
end

-- Sim
section
namespace Go.Hb
open Go Go.RowKit
section
variable (P : Program) (ok : Ok) (x : Ctx) (ops : Array Oper)
def LK (d : Option Tmp) (tm : Tr Value) (ds : List Deferred) (H : Heap) (K : Tr Value → List Deferred → Heap → Prop) : Option Dr → Prop
  | some (.val v H') => K (putD tm d v) ds H'
  | some (.call f args) => EvF P ok f args H fun v H' => K (putD tm d v) ds H'
  | some (.yield l args) => EvR P ok l args H fun v H' => K (putD tm d v) ds H'
  | some (.dfr dd) => x.round = none ∧ K (putD tm d undef) (dd :: ds) H
  | _ => False
def GK (d : Option Tmp) (tm : Tr Value) (K L : Prop) (want : Bool) : Option Value → Prop
  | some (.bool b) => if b = want then K else L
  | some (.tuple _) => L
  | _ => False
def guardOf (ops : Array Oper) (tm : Tr Value) (j : Nat) : Option Value :=
  match ops.toList[j]? with
  | some o => match o.dst with
    | some d => tm.get d
    | none => some (.tuple #[])
  | none => some (.tuple #[])
def EL : List Oper → Tr Value → List Deferred → Heap → (Tr Value → List Deferred → Heap → Prop) → Prop
  | [], tm, ds, H, K => K tm ds H
  | o :: os, tm, ds, H, K => match o.guard with
    | none => LK P ok x o.dst tm ds H (fun tm ds H => EL os tm ds H K) (dop P o (ev tm) H)
    | some (j, w) => GK o.dst tm (LK P ok x o.dst tm ds H (fun tm ds H => EL os tm ds H K) (dop P o (ev tm) H)) (EL os (putD tm o.dst undef) ds H K) w (guardOf ops tm j)
end
section
variable {P : Program} {ok : Ok} {x : Ctx} {ops : Array Oper}
section
variable (P ok x ops) (base : Nat)
def NK (k : Nat) (o : Oper) (tm : Tr Value) (gs : List Heap) (K : Tr Value → Prop) (d : Option Tmp) (nx : Nat) : Option Dr → Prop
  | some (.val v G') => (isRead o = false ∨ (G'.next = nx ∧ sameOn P o (ev tm) v (gs.take (gs.length - k)) = true)) ∧ K (putD tm d v)
  | _ => False
def AK (i : Nat) (tm : Tr Value) (H : Heap) (K : Tr Value → Heap → Prop) (d : Option Tmp) : Option (Blk × (Nat → Value)) → Prop
  | some (B, mk) => K (putD tm d (mk (base + i))) (H.put (base + i) (some B))
  | none => False
def EN1 (G : Heap) (gs : List Heap) (i k : Nat) (tm : Tr Value) (H : Heap) (K : Tr Value → Heap → Prop) : Option Oper → Prop
  | none => False
  | some o =>
    let go : Prop := match isAlloc o with
      | true => AK base i tm H K o.dst (dalloc P o (ev tm))
      | false => NK P k o tm gs (fun tm => K tm H) o.dst G.next (dop P o (ev tm) G)
    match o.guard with
    | none => go
    | some (j, w) => GK o.dst tm go (K (putD tm o.dst undef) H) w (guardOf ops tm j)
def EN (G : Heap) (gs : List Heap) : List (Nat × Nat) → Tr Value → Heap → (Tr Value → Heap → Prop) → Prop
  | [], tm, H, K => K tm H
  | (i, k) :: L, tm, H, K => EN1 P ops base G gs i k tm H (fun tm H => EN G gs L tm H K) ops.toList[i]?
def ES1 (tm : Tr Value) (ds : List Deferred) (H : Heap) (K : Tr Value → List Deferred → Heap → Prop) : Option Oper → Prop
  | none => False
  | some o => match o.guard with
    | none => LK P ok x o.dst tm ds H K (dop P o (ev tm) H)
    | some (j, w) => GK o.dst tm (LK P ok x o.dst tm ds H K (dop P o (ev tm) H)) (K (putD tm o.dst undef) ds H) w (guardOf ops tm j)
def ES : List (List (Nat × Nat) × Option Nat) → Heap → List Heap → Tr Value → List Deferred → (Tr Value → List Deferred → Heap → Prop) → Prop
  | [], _, _, _, _, _ => False
  | (L, none) :: _, G, gs, tm, ds, K => EN P ops base G gs L tm G fun tm H => K tm ds H
  | (L, some e) :: S, G, gs, tm, ds, K => EN P ops base G gs L tm G fun tm H => ES1 P ok x ops tm ds H (fun tm ds H => ES S H (G :: gs) tm ds K) ops.toList[e]?
end
theorem EvN.mono {base : Nat} {hs : List Heap} {K K' : Tr Value → Heap → Prop} (hk : ∀ tm H, K tm H → K' tm H) : ∀ (L : List (Nat × Nat)) (tm : Tr Value) (H : Heap), EvN P ops base hs L tm H K → EvN P ops base hs L tm H K'
  | [], tm, H, h => hk _ _ h
  | (i, k) :: L, tm, H, h => by
    obtain ⟨o, ho, h⟩ := h
    refine ⟨o, ho, ?_⟩
    rcases h with ⟨hw, h⟩ | ⟨hw, ha, B, mk, hd, h⟩ | ⟨hw, ha, v, G, gs, G', rfl, hd, hr, h⟩
    · exact .inl ⟨hw, EvN.mono hk L _ _ h⟩
    · exact .inr (.inl ⟨hw, ha, B, mk, hd, EvN.mono hk L _ _ h⟩)
    · exact .inr (.inr ⟨hw, ha, v, G, gs, G', rfl, hd, hr, EvN.mono hk L _ _ h⟩)
end
end Go.Hb
end

-- Hx
section
namespace Go.Hb
open Go Go.RowKit
def Heap.wf (H : Heap) : Prop := ∀ i B, H.get i = some B → i < H.next
structure HX (H H' : Heap) : Prop where
  next : H.next ≤ H'.next
  keep : ∀ i, i < H.next → H'.get i = H.get i
  wf : H'.wf
theorem HX.refl {H : Heap} (h : H.wf) : HX H H := ⟨Nat.le_refl _, fun _ _ => rfl, h⟩
theorem HX.trans {A B C : Heap} (h : HX A B) (k : HX B C) : HX A C :=
  ⟨Nat.le_trans h.next k.next, fun i hi => by rw [k.keep i (Nat.lt_of_lt_of_le hi h.next), h.keep i hi], k.wf⟩
theorem HX.new {A H : Heap} (h : HX A H) (B : Option Blk) : HX A (H.new B) := by
  refine ⟨Nat.le_succ_of_le h.next, fun i hi => ?_, fun i C hC => ?_⟩
  · rw [Heap.get_new, if_neg (by have := h.next; omega)]; exact h.keep i hi
  · rw [Heap.get_new] at hC
    show i < H.next + 1
    by_cases hi : i = H.next
    · omega
    · rw [if_neg hi] at hC; have := h.wf i C hC; omega
theorem HX.put {A H : Heap} (h : HX A H) {i : Nat} (hi : A.next ≤ i) (hl : i < H.next) (B : Option Blk) : HX A (H.put i B) := by
  refine ⟨h.next, fun j hj => ?_, fun j C hC => ?_⟩
  · rw [Heap.get_put, if_neg (by omega)]; exact h.keep j hj
  · rw [Heap.get_put] at hC
    show j < H.next
    by_cases hj : j = i
    · omega
    · rw [if_neg hj] at hC; exact h.wf j C hC
theorem HX.bump {A H : Heap} (h : HX A H) (k : Nat) : HX A ⟨H.next + k, H.t⟩ :=
  ⟨Nat.le_trans h.next (Nat.le_add_right _ _), h.keep, fun i B hB => Nat.lt_of_lt_of_le (h.wf i B hB) (Nat.le_add_right _ _)⟩
theorem HX.cells {H H' : Heap} (h : HX H H') {i : Nat} {cs : List Value} (hw : H.wf) (hc : H.cells i = some cs) : H'.cells i = some cs := by
  have hlt : i < H.next := by
    unfold Heap.cells at hc
    cases hg : H.get i with
    | none => rw [hg] at hc; cases hc
    | some B => exact hw i B hg
  unfold Heap.cells at hc ⊢
  rw [h.keep i hlt]; exact hc
theorem HX.load {H H' : Heap} (h : HX H H') {a : Addr} {n : Nat} {l : List Value} (hw : H.wf) (hl : H.load a n = some l) : H'.load a n = some l := by
  unfold Heap.load at hl ⊢
  split at hl
  · rename_i cs hs hc
    rw [hs, h.cells hw hc]
    exact hl
  · cases hl
inductive Tm where
  | mk (kind : Int) (name num : ByteArray) (bits var : Int) (args : List Tm)
def Tm.args : Tm → List Tm | .mk _ _ _ _ _ l => l
def Tm.kind : Tm → Int | .mk k _ _ _ _ _ => k
def Tm.name : Tm → ByteArray | .mk _ s _ _ _ _ => s
def Tm.num : Tm → ByteArray | .mk _ _ s _ _ _ => s
def Tm.bits : Tm → Int | .mk _ _ _ b _ _ => b
def Tm.var : Tm → Int | .mk _ _ _ _ v _ => v
def i64 (n : Int) : Prop := -9223372036854775808 ≤ n ∧ n ≤ 9223372036854775807
def u64 (n : Int) : Prop := 0 ≤ n ∧ n ≤ 18446744073709551615
inductive RepT (H : Heap) : Tm → List Value → Prop
  | mk (k : Int) (s u : ByteArray) (b v : Int) (l : List Tm) (a : Option Addr) (c : Nat) (cells : Nat → List Value) : i64 k → s.size ≤ maxLen → u.size ≤ maxLen → u64 b → i64 v → l.length ≤ maxLen →
      l.length ≤ c → c ≤ maxLen → (a = none → l = [] ∧ c = 0) →
      (∀ i ad, i < l.length → a = some ad → ad.spot = none ∧ H.load ⟨ad.block, ad.off + i * 6, none⟩ 6 = some (cells i)) → (∀ i t, l[i]? = some t → RepT H t (cells i)) →
      RepT H (.mk k s u b v l) [.int .i64 k, .string s, .string u, .int .u64 b, .int .i64 v, .slice a l.length c]
theorem RepT.mono {H H' : Heap} (h : HX H H') (hw : H.wf) : ∀ {t : Tm} {cs : List Value}, RepT H t cs → RepT H' t cs := by
  intro t cs r
  induction r with
  | mk k s u b v l a c cells h1 h2 h3 h4 h5 h6 h7 h8 h9 h10 h11 ih =>
    exact .mk k s u b v l a c cells h1 h2 h3 h4 h5 h6 h7 h8 h9 (fun i ad hi ha => ⟨(h10 i ad hi ha).1, h.load hw (h10 i ad hi ha).2⟩) ih
structure RepL (H : Heap) (l : List Tm) (a : Option Addr) (c : Nat) (cells : Nat → List Value) : Prop where
  len : l.length ≤ c
  cap : c ≤ maxLen
  nil : a = none → l = [] ∧ c = 0
  load : ∀ i ad, i < l.length → a = some ad → ad.spot = none ∧ H.load ⟨ad.block, ad.off + i * 6, none⟩ 6 = some (cells i)
  rep : ∀ i t, l[i]? = some t → RepT H t (cells i)
theorem RepL.mono {H H' : Heap} (h : HX H H') (hw : H.wf) {l : List Tm} {a : Option Addr} {c : Nat} {cells : Nat → List Value} (r : RepL H l a c cells) : RepL H' l a c cells :=
  ⟨r.len, r.cap, r.nil, fun i ad hi ha => ⟨(r.load i ad hi ha).1, h.load hw (r.load i ad hi ha).2⟩, fun i t ht => (r.rep i t ht).mono h hw⟩
theorem RepL.at {H : Heap} {l : List Tm} {a : Option Addr} {c : Nat} {cells : Nat → List Value} (r : RepL H l a c cells) {i : Nat} {t : Tm} (h : l[i]? = some t) :
    ∃ b o, a = some ⟨b, o, none⟩ ∧ H.load ⟨b, o + i * 6, none⟩ 6 = some (cells i) ∧ RepT H t (cells i) := by
  have hi : i < l.length := (List.getElem?_eq_some_iff.1 h).1
  cases a with
  | none => obtain ⟨rfl, _⟩ := r.nil rfl; simp at hi
  | some ad =>
    obtain ⟨h1, h2⟩ := r.load i ad hi rfl
    obtain ⟨b, o, s⟩ := ad
    obtain rfl : s = none := h1
    exact ⟨b, o, rfl, h2, r.rep i t h⟩
end Go.Hb
end

-- Sop
section
namespace Go.Hb
open Go Go.RowKit
def guardGet (tm : Tr Value) : Option Oper → Option Value
  | some ⟨some d, _, _, _, _, _⟩ => tm.get d
  | _ => some (.tuple #[])
theorem EvC.cut {P : Program} {ok : Ok} {x : Ctx} {a b : Code} {st : St} {Q : Ex → St → Prop} (R : St → Prop) (h1 : EvC P ok x a st (fun e st1 => e = .normal ∧ R st1)) (h2 : ∀ st1, R st1 → EvC P ok x b st1 Q) : EvC P ok x (.seq a b) st Q := by
  refine EvC.seq (h1.mono fun e st1 ⟨he, hr⟩ => ?_)
  subst he
  exact h2 st1 hr
theorem EvC.frame {P : Program} {ok : Ok} {x : Ctx} {c : Code} {tm : Tr Value} {ds : List Deferred} {H : Heap} {Q : Ex → St → Prop} (R : Tr Value → Prop) (h1 : R tm) (h2 : ∀ tm, R tm → EvC P ok x c ⟨tm, ds, H⟩ Q) : EvC P ok x c ⟨tm, ds, H⟩ Q := h2 tm h1
theorem LK.mono {P : Program} {ok : Ok} {x : Ctx} {d : Option Tmp} {tm : Tr Value} {ds : List Deferred} {H : Heap} {K L : Tr Value → List Deferred → Heap → Prop} {r : Option Dr} (h : LK P ok x d tm ds H K r) (k : ∀ tm ds H, K tm ds H → L tm ds H) : LK P ok x d tm ds H L r := by
  unfold LK at h ⊢
  split at h
  · exact k _ _ _ h
  · exact h.mono fun v H' hk => k _ _ _ hk
  · exact Upon.mono h fun _ hk => k _ _ _ hk
  · exact ⟨h.1, k _ _ _ h.2⟩
  · exact h
theorem EL.mono {P : Program} {ok : Ok} {x : Ctx} {ops : Array Oper} {K L : Tr Value → List Deferred → Heap → Prop} (k : ∀ tm ds H, K tm ds H → L tm ds H) : ∀ (os : List Oper) (tm : Tr Value) (ds : List Deferred) (H : Heap), EL P ok x ops os tm ds H K → EL P ok x ops os tm ds H L
  | [], tm, ds, H, h => k _ _ _ h
  | o :: os, tm, ds, H, h => by
    unfold EL at h ⊢
    split at h
    · exact h.mono fun tm ds H h => EL.mono k os tm ds H h
    · unfold GK at h ⊢
      split at h
      · split at h
        · rename_i hb; simp only [hb, if_true]; exact h.mono fun tm ds H h => EL.mono k os tm ds H h
        · rename_i hb; simp only [hb, if_false]; exact EL.mono k os _ _ _ h
      · exact EL.mono k os _ _ _ h
      · exact h
theorem EL.append {P : Program} {ok : Ok} {x : Ctx} {ops : Array Oper} {K : Tr Value → List Deferred → Heap → Prop} {b : List Oper} : ∀ (a : List Oper) (tm : Tr Value) (ds : List Deferred) (H : Heap), EL P ok x ops a tm ds H (fun tm ds H => EL P ok x ops b tm ds H K) → EL P ok x ops (a ++ b) tm ds H K
  | [], tm, ds, H, h => h
  | o :: os, tm, ds, H, h => by
    rw [List.cons_append]
    unfold EL at h ⊢
    split at h
    · exact h.mono fun tm ds H h => EL.append os tm ds H h
    · unfold GK at h ⊢
      split at h
      · split at h
        · rename_i hb; simp only [hb, if_true]; exact h.mono fun tm ds H h => EL.append os tm ds H h
        · rename_i hb; simp only [hb, if_false]; exact EL.append os _ _ _ h
      · exact EL.append os _ _ _ h
      · exact h
def LX (P : Program) (ok : Ok) (x : Ctx) (ops : Array Oper) (d : Option Tmp) (os : List Oper) (tm : Tr Value) (ds : List Deferred) (H : Heap) (K : Tr Value → List Deferred → Heap → Prop) (r : Option Dr) : Prop :=
  LK P ok x d tm ds H (fun tm ds H => EL P ok x ops os tm ds H K) r
def LG (P : Program) (ok : Ok) (x : Ctx) (ops : Array Oper) (o : Oper) (os : List Oper) (tm : Tr Value) (ds : List Deferred) (H : Heap) (K : Tr Value → List Deferred → Heap → Prop) (w : Bool) (g : Option Value) : Prop :=
  GK o.dst tm (LX P ok x ops o.dst os tm ds H K (dop P o (ev tm) H)) (EL P ok x ops os (putD tm o.dst undef) ds H K) w g
section
variable {P : Program} {ok : Ok} {x : Ctx} {ops : Array Oper} {os : List Oper} {tm : Tr Value} {ds : List Deferred} {H H' : Heap} {K : Tr Value → List Deferred → Heap → Prop} {d : Option Tmp} {op : Op} {ty : TypeId} {pos : String} {af : Array Edge} {j : Nat} {w : Bool}
end
section
variable (P : Program)
def dPick (c a b : Value) (H : Heap) : Option Dr := match c with | .bool true => some (.val a H) | .bool false => some (.val b H) | _ => none
def dBin (op : BinOp) (t : TypeId) (x y : Operand) (a b : Value) (H : Heap) : Option Dr :=
  match dnil P op t a b with
  | some v => some (.val v H)
  | none => match (flat a && (flat b && true)), pureRun P (do let r ← (do eqGuard op t x y a b; binOp op t a b); pure (Next.value r)) with
    | true, some (.value v) => match flat v with
      | true => some (.val v H)
      | false => none
    | _, _ => none
def dLoad (t : TypeId) (a : Value) (H : Heap) : Option Dr := match a with | .pointer (some ad) => (dload P t ad H).map (.val · H) | _ => none
def dStore (t : TypeId) (a v : Value) (H : Heap) : Option Dr :=
  match a with
  | .pointer (some ad) => if Nat.beq v.cells.size (P.cellsOf t) && (P.info? t).isSome then (H.store ad v.cells.toList).map (.val undef ·) else none
  | _ => none
def fldOf (t : TypeId) (f : Nat) : Option (Nat × TypeId) := match P.underlying t with | some (.struct fs) => (fs.toList[f]?).map fun fd => (fd.offset, fd.type) | _ => none
def dField (t : TypeId) (x : Value) (f : Nat) (H : Heap) : Option Dr :=
  match P.underlying t, x with
  | some (.struct fs), .agg cs => match fs.toList[f]? with
    | some fd => (dpart P fd.type cs fd.offset).map (.val · H)
    | none => none
  | _, _ => none
def dFieldAddr (t : TypeId) (x : Value) (f : Nat) (H : Heap) : Option Dr :=
  match P.underlying t, x with
  | some (.struct fs), .pointer (some a) => match fs.toList[f]? with
    | some fd => if a.spot.isNone && !(Nat.beq (P.cellsOf fd.type) 0) then some (.val (.pointer (some ⟨a.block, a.off + fd.offset, none⟩)) H) else none
    | none => none
  | _, _ => none
def dIndexAddr (t : TypeId) (x ix : Value) (H : Heap) : Option Dr :=
  match P.underlying t, x with
  | some (.slice e), .slice (some a) n _ => match intBetween ix (n - 1), Nat.beq n 0, a.spot, (P.info? e).isSome with
    | some i, false, none, true => some (.val (.pointer (some ⟨a.block, a.off + i * P.cellsOf e, none⟩)) H)
    | _, _, _, _ => none
  | some (.array n e), .pointer (some a) => match intBetween ix (n - 1), Nat.beq n 0, a.spot, (P.info? e).isSome with
    | some i, false, none, true => some (.val (.pointer (some ⟨a.block, a.off + i * P.cellsOf e, none⟩)) H)
    | _, _, _, _ => none
  | _, _ => none
def dLen (ts : Option TypeId) (x : Value) (H : Heap) : Option Dr :=
  match x with
  | .slice _ n _ => match ts.bind P.underlying with
    | some (.slice _) => some (.val (goInt n) H)
    | _ => none
  | .map (some r) => match ts.bind P.underlying, H.get r with
    | some (.map _ _), some (.map es _) => some (.val (goInt es.length) H)
    | _, _ => none
  | _ => none
def callable (f : FuncId) : Bool := match P.funcs[f]? with | some fn => fn.body.isSome && !(fn.name == "runtime.NumGoroutine") | none => false
end
section
variable {P : Program} {d : Option Tmp} {ty : TypeId} {pos : String} {af : Array Edge} {g : Option (Nat × Bool)} {ρ : Operand → Value} {H : Heap}
def cutC (cs : List Value) (o n : Nat) : Option (List Value) := let l := (cs.drop o).take n; if Nat.beq l.length n then some l else none
def dloadA (n : Nat) (l : Option (List Value)) (H : Heap) : Option Dr := (l.map fun l => Value.agg ⟨l⟩).map (.val · H)
def dload1 (l : Option (List Value)) (H : Heap) : Option Dr := match l with | some [v] => some (.val v H) | _ => none
theorem get_new {B : Option Blk} {j : Nat} : (H.new B).get j = if j = H.next then B else H.get j := Heap.get_new _ _ _
theorem get_put {B : Option Blk} {i j : Nat} : (H.put i B).get j = if j = i then B else H.get j := Heap.get_put _ _ _ _
def dStoreB (ad : Addr) (vs : List Value) (H : Heap) : Option Blk → Option Dr
  | some (.row cs e) => if ad.off + vs.length ≤ cs.length ∧ vs.all one = true then some (.val undef (H.put ad.block (some (.row (splice cs ad.off vs) e)))) else none
  | _ => none
def dStoreIf (c : Bool) (ad : Addr) (vs : List Value) (H : Heap) (B : Option Blk) : Option Dr := if c = true then dStoreB ad vs H B else none
theorem splice_zero {cs vs : List Value} : splice cs 0 vs = vs ++ cs.drop vs.length := by cases cs <;> rfl
def dBox (e : TypeId) (v : Value) (H : Heap) : Option Dr := if v.cells.toList.all one then some (.val (.pointer (some ⟨H.next, 0, none⟩)) (H.new (some (.row v.cells.toList e)))) else none
def zerosOf (P : Program) (e : TypeId) : Option (List Value) := match pureRun P (zeroValue e) with | some z => if flat z && z.cells.toList.all one then some z.cells.toList else none | none => none
def dAlloc (e : TypeId) (H : Heap) : Option (List Value) → Option Dr
  | some cs => some (.val (.pointer (some ⟨H.next, 0, none⟩)) (H.new (some (.row cs e))))
  | none => none
def dOut (fl : Bool) (r : Option Next) (H : Heap) : Option Dr :=
  match fl, r with
  | true, some (.value v) => match flat v with
    | true => some (.val v H)
    | false => none
  | _, _ => none
def dLn (P : Program) (t ty : TypeId) (v : Value) (H : Heap) : Option Dr :=
  match v with
  | .slice _ n _ => match P.underlying t with
    | some (.slice _) => some (.val (goInt n) H)
    | _ => none
  | .map (some r) => match P.underlying t, H.get r with
    | some (.map _ _), some (.map es _) => some (.val (goInt es.length) H)
    | _, _ => none
  | v => dOut (flat v && true) (pureRun P (do let r ← Builtin.len_ #[t] ty #[v]; pure (Next.value r))) H
def dUn (P : Program) (op : UnOp) (v : Value) (H : Heap) : Option Dr := dOut (flat v && true) (pureRun P (do let r ← Op.unary op v; pure (Next.value r))) H
def dExt (t : Value) (i : Nat) (H : Heap) : Option Dr := match t with | .tuple vs => (vs.toList[i]?).map (.val · H) | _ => none
def dMin (P : Program) (ats : Array TypeId) (ty : TypeId) (v w : Value) (H : Heap) : Option Dr := dOut (flat v && (flat w && true)) (pureRun P (do let r ← Builtin.min_ ats ty #[v, w]; pure (Next.value r))) H
end
end Go.Hb
end

-- Sop2
section
namespace Go.Hb
open Go Go.RowKit
section
variable {P : Program} {ok : Ok} {x : Ctx} {ops : Array Oper} {os : List Oper} {tm : Tr Value} {ds : List Deferred} {H H' : Heap} {K : Tr Value → List Deferred → Heap → Prop} {w : Bool}
end
section
variable {P : Program} {d : Option Tmp} {ty : TypeId} {pos : String} {af : Array Edge} {g : Option (Nat × Bool)} {ρ : Operand → Value} {H : Heap}
theorem gt_new_eq {B : Option Blk} : (H.new B).get H.next = B := by rw [get_new, if_pos rfl]
theorem gt_put_eq {b : Nat} {B : Option Blk} : (H.put b B).get b = B := by rw [get_put, if_pos rfl]
def dGet1 (v : Option Value) (H : Heap) : Option Dr := v.map (.val · H)
def layC (pl : List (Nat × Nat)) : List Value → List (Nat × List Value) → Option (List Value)
  | cells, [] => some cells
  | cells, (i, v) :: rest => match pl[i]? with
    | some (off, size) => if v.length = size ∧ off + v.length ≤ cells.length then layC pl (splice cells off v) rest else none
    | none => none
def bdPl (P : Program) (t : TypeId) : Option (List (Nat × Nat)) :=
  match P.underlying t with
  | some (.struct fs) => (pureRun P (fs.mapM fun f => do pure (f.offset, ← sizeOf f.type))).map (·.toList)
  | _ => none
def dBuild (P : Program) (t : TypeId) (vs : List (Nat × Value)) (H : Heap) : Option Dr :=
  if vs.all (fun p => p.2.cells.toList.all one) && zflat P t then
    match pureRun P (Instr.build t ⟨vs⟩) with
    | some v => some (.val v H)
    | none => none
  else none
def dBd (c : Bool) (r : Option (List Value)) (H : Heap) : Option Dr := match c, r with | true, some cs => some (.val (.agg ⟨cs⟩) H) | _, _ => none
def dBuildS (P : Program) (t : TypeId) (len : Nat) (vs : List (Nat × Value)) (H : Heap) : Option Dr :=
  match P.underlying t with
  | some (.slice e) => match P.info? e with
    | some i => match i.zero with
      | some z =>
        let size := i.size
        if len ≤ most ∧ len * size ≤ most ∧ flat z = true ∧ z.cells.size = size ∧ z.cells.toList.all one = true ∧ vs.all (fun p => p.2.cells.toList.all one) = true then
          match Instr.fill (fun i => some (i * size, size)) ((Array.range (len * size)).map (z.cells[· % z.cells.size]!)) vs with
          | some cells => some (.val (.slice (some ⟨H.next, 0, none⟩) len len) (H.new (some (.row cells.toList e))))
          | none => none
        else none
      | none => none
    | none => none
  | _ => none
def bsZs (P : Program) (t : TypeId) (len : Nat) : Option (TypeId × Nat × List Value) :=
  match P.underlying t with
  | some (.slice e) => match P.info? e with
    | some i => match i.zero with
      | some z => if len ≤ most ∧ len * i.size ≤ most ∧ flat z = true ∧ z.cells.size = i.size ∧ z.cells.toList.all one = true then some (e, i.size, (List.range (len * i.size)).map (z.cells[· % z.cells.size]!)) else none
      | none => none
    | none => none
  | _ => none
def placesN (size : Nat) : Nat → Nat → List (Nat × Nat)
  | 0, _ => []
  | n + 1, o => (o, size) :: placesN size n (o + size)
def dBs (e : TypeId) (n : Nat) (c : Bool) (r : Option (List Value)) (H : Heap) : Option Dr := match c, r with | true, some cs => some (.val (.slice (some ⟨H.next, 0, none⟩) n n) (H.new (some (.row cs e)))) | _, _ => none
def dSl (P : Program) (t : TypeId) (v : Value) (lo hi mx : Option Value) (H : Heap) : Option Dr :=
  match v with
  | .string s => dOut ((lo.toList ++ (hi.toList ++ mx.toList)).all flat) (pureRun P (do let r ← Instr.sliceAt t (.string s) lo hi mx; pure (Next.value r))) H
  | v => dslice P t v lo hi mx H
def slcOk (P : Program) (t e : TypeId) (s : Nat) : Prop := P.underlying t = some (.slice e) ∧ (P.info? e).isSome = true ∧ P.cellsOf e = s
def dAp (P : Program) (ts : Array TypeId) (s v : Value) (H : Heap) : Option Dr :=
  match ts.toList with
  | [t, xt] => match dzeros P t xt s v H with
    | some r => some r
    | none => dappend P ts s v H
  | _ => none
def apSz (P : Program) (t : TypeId) : Option (TypeId × Nat) :=
  match P.underlying t with
  | some (.slice e) => match P.info? e with
    | some i => if i.bytes ≤ 4096 ∧ 0 < i.size ∧ zsize i = i.size then some (e, i.size) else none
    | none => none
  | _ => none
def apOk (P : Program) (t e : TypeId) (s : Nat) : Prop := ∃ i, P.underlying t = some (.slice e) ∧ P.info? e = some i ∧ i.size = s ∧ i.bytes ≤ 4096 ∧ 0 < s ∧ zsize i = s
def repL (n : Nat) (zs : List Value) : List Value := (List.replicate n zs).flatten
def dMk (P : Program) (t : TypeId) (l c : Value) (H : Heap) : Option Dr :=
  match P.underlying t with
  | some (.slice e) => match P.info? e, intBetween c most with
    | some i, some cap => match i.zero, intBetween l cap with
      | some z, some len =>
        let size := i.size
        if flat z = true ∧ z.cells.size = size ∧ i.bytes ≤ 4096 ∧ z.cells.toList.all one = true then
          some (.val (.slice (some ⟨H.next, 0, none⟩) len cap) (H.new (some (.row ((List.range (cap * size)).map (z.cells[· % z.cells.size]!)) e))))
        else none
      | _, _ => none
    | _, _ => none
  | _ => none
def mkZs (P : Program) (t : TypeId) : Option (TypeId × List Value) :=
  match P.underlying t with
  | some (.slice e) => match P.info? e with
    | some i => match i.zero with
      | some z => if flat z = true ∧ z.cells.size = i.size ∧ i.bytes ≤ 4096 ∧ z.cells.toList.all one = true ∧ 0 < i.size then some (e, z.cells.toList) else none
      | none => none
    | none => none
  | _ => none
def mkOk (P : Program) (t e : TypeId) (zs : List Value) : Prop := ∃ i z, P.underlying t = some (.slice e) ∧ P.info? e = some i ∧ i.zero = some z ∧ flat z = true ∧ z.cells.size = i.size ∧ i.bytes ≤ 4096 ∧ z.cells.toList.all one = true ∧ z.cells.toList = zs ∧ 0 < i.size
def dCp (P : Program) (ts : Array TypeId) (a b : Value) (H : Heap) : Option Dr := dcopy P ts a b H
def dClr (P : Program) (ts : Array TypeId) (a : Value) (H : Heap) : Option Dr := dclear P ts a H
def dCallV (P : Program) (o : Oper) (ρ : Operand → Value) (f : Value) (args : List Value) (H : Heap) : Option Dr :=
  match f with
  | .func (.func f) first captured =>
    match dcall1 P f (first.toList ++ args ++ captured.toList) with
    | some r => some r
    | none => dflat P o ρ H
  | .func (.yield l) first _ => some (.yield l (first.toList ++ args))
  | _ => none
end
end Go.Hb
end

-- Sop3
section
namespace Go.Hb
open Go Go.RowKit
section
variable {P : Program} {H : Heap} {ρ : Operand → Value} {d : Option Tmp} {ty : TypeId} {pos : String} {af : Array Edge} {g : Option (Nat × Bool)}
def byteAt (s : ByteArray) (i : Nat) : Nat := (s.data.toList.getD i 0).toNat
def dIdx (P : Program) (t : TypeId) (v i : Value) (H : Heap) : Option Dr :=
  match P.underlying t, v with
  | some (.array n e), .agg cs => match intBetween i (n - 1), Nat.beq n 0 with
    | some i, false => (dpart P e cs (i * P.cellsOf e)).map (.val · H)
    | _, _ => none
  | _, v => dOut (flat v && (flat i && true)) (pureRun P (do let r ← Instr.index t v i; pure (Next.value r))) H
def dCon (P : Program) (src dst : TypeId) (v : Value) (H : Heap) : Option Dr :=
  match P.underlying src, P.underlying dst, v with
    | some (.slice e), some .string, .slice a n c => match P.underlying e with
      | some (.int .u8) => (dbytes (.slice a n c) H).map (.val · H)
      | _ => none
    | _, some (.slice _), _ => none
    | _, _, v => dOut (flat v && true) (pureRun P (do let r ← convert src dst v; pure (Next.value r))) H
def kAnd (k : IntKind) (a b : Int) : Int := k.wrap (BitVec.ofInt k.bits a &&& BitVec.ofInt k.bits b).toNat
def kOr (k : IntKind) (a b : Int) : Int := k.wrap (BitVec.ofInt k.bits a ||| BitVec.ofInt k.bits b).toNat
end
section
open IntWalk
end
def bytesV (l : List Nat) : List Value := l.map fun n : Nat => Value.int .u8 (n : Int)
end Go.Hb
end

-- Own
section
namespace Go.Hb
open Go Go.RowKit
structure OwnS (H : Heap) (e : TypeId) (s base : Nat) (L : List (List Value)) (b c : Nat) : Prop where
  lo : base ≤ b
  hi : b < H.next
  row : ∃ cs, H.get b = some (.row cs e) ∧ L.length * s ≤ cs.length ∧ cs.take (L.length * s) = L.flatten
  len : L.length ≤ c
  cap : c ≤ maxLen
  sz : ∀ x ∈ L, x.length = s
  all : ∀ x ∈ L, x.all one = true
def RepO (H : Heap) (e : TypeId) (s base : Nat) (L : List (List Value)) (v : Value) : Prop :=
  (L = [] ∧ v = .slice none 0 0) ∨ ∃ b c, OwnS H e s base L b c ∧ v = .slice (some ⟨b, 0, none⟩) L.length c
theorem flat_len {s : Nat} : ∀ (L : List (List Value)), (∀ x ∈ L, x.length = s) → L.flatten.length = L.length * s
  | [], _ => by simp
  | x :: L, h => by
    rw [List.flatten_cons, List.length_append, h x (by simp), flat_len L fun y hy => h y (List.mem_cons_of_mem _ hy), List.length_cons, Nat.succ_mul]; omega
theorem flat_at {s : Nat} : ∀ (L : List (List Value)) (i : Nat) (x : List Value), (∀ x ∈ L, x.length = s) → L[i]? = some x → (L.flatten.drop (i * s)).take s = x
  | [], i, x, _, h => by simp at h
  | y :: L, 0, x, hs, h => by
    simp at h; subst h
    rw [Nat.zero_mul, List.drop_zero, List.flatten_cons, List.take_append_of_le_length (by rw [hs y (by simp)]; exact Nat.le_refl _), List.take_of_length_le (by rw [hs y (by simp)]; exact Nat.le_refl _)]
  | y :: L, i + 1, x, hs, h => by
    simp at h
    have hy : y.length = s := hs y (by simp)
    rw [List.flatten_cons, Nat.succ_mul, Nat.add_comm, ← List.drop_drop, List.drop_left' hy]
    exact flat_at L i x (fun z hz => hs z (List.mem_cons_of_mem _ hz)) h
theorem flat_set {s : Nat} : ∀ (L : List (List Value)) (i : Nat) (x : List Value), (∀ x ∈ L, x.length = s) → x.length = s → i < L.length → splice L.flatten (i * s) x = (L.set i x).flatten
  | [], i, x, _, _, h => by simp at h
  | y :: L, 0, x, hs, hx, h => by
    have hy : y.length = s := hs y (by simp)
    rw [Nat.zero_mul, splice_zero, List.flatten_cons, List.set_cons_zero, List.flatten_cons, hx, ← hy, List.drop_left]
  | y :: L, i + 1, x, hs, hx, h => by
    have hy : y.length = s := hs y (by simp)
    have hs' : ∀ z ∈ L, z.length = s := fun z hz => hs z (List.mem_cons_of_mem _ hz)
    have hi : i < L.length := by simpa using h
    have hL := flat_len L hs'
    have hb : i * s + s ≤ L.length * s := by rw [← Nat.succ_mul]; exact Nat.mul_le_mul_right _ hi
    rw [List.set_cons_succ, List.flatten_cons, List.flatten_cons, ← flat_set L i x hs' hx hi, splice_eq _ _ _ (by rw [List.length_append, hy, hL, Nat.succ_mul]; omega), splice_eq _ _ _ (by rw [hL]; omega), Nat.succ_mul]
    rw [List.take_append, List.drop_append, hy]
    have e1 : i * s + s - s = i * s := by omega
    have e2 : i * s + s + x.length - s = i * s + x.length := by omega
    rw [e1, e2, List.take_of_length_le (by omega), List.drop_eq_nil_of_le (by omega)]
    simp
theorem splice_take {cs vs : List Value} {o n : Nat} (h : o + vs.length ≤ n) (hn : n ≤ cs.length) : (splice cs o vs).take n = splice (cs.take n) o vs := by
  rw [splice_eq _ _ _ (by omega), splice_eq _ _ _ (by rw [List.length_take]; omega)]
  apply List.ext_getElem?
  intro k
  simp only [List.getElem?_append, List.getElem?_take, List.getElem?_drop, List.length_take, List.length_append, List.length_drop]
  grind
theorem splice_len {cs vs : List Value} {o : Nat} (h : o + vs.length ≤ cs.length) : (splice cs o vs).length = cs.length := by
  rw [splice_eq _ _ _ (by omega)]; simp; omega
section
variable {H : Heap} {e : TypeId} {s base b c : Nat} {L : List (List Value)}
theorem OwnS.load (h : OwnS H e s base L b c) {i : Nat} {x : List Value} (hx : L[i]? = some x) : H.load ⟨b, i * s, none⟩ s = some x := by
  obtain ⟨cs, hg, hl, ht⟩ := h.row
  have hi : i < L.length := (List.getElem?_eq_some_iff.1 hx).1
  have hle : i * s + s ≤ L.length * s := by rw [← Nat.succ_mul]; exact Nat.mul_le_mul_right _ hi
  have hc : H.cells b = some cs := by unfold Heap.cells; rw [hg]
  have e1 : (cs.drop (i * s)).take s = x := by
    rw [← flat_at L i x h.sz hx, ← ht, List.drop_take, List.take_take]
    congr 1
    omega
  unfold Heap.load
  simp only [hc, e1]
  rw [if_pos (by rw [Nat.beq_eq]; exact h.sz x (List.mem_of_getElem? hx))]
theorem OwnS.part (h : OwnS H e s base L b c) {i j n : Nat} {x : List Value} (hx : L[i]? = some x) (hj : j + n ≤ s) : H.load ⟨b, i * s + j, none⟩ n = some ((x.drop j).take n) := by
  obtain ⟨cs, hg, hl, ht⟩ := h.row
  have hi : i < L.length := (List.getElem?_eq_some_iff.1 hx).1
  have hle : i * s + s ≤ L.length * s := by rw [← Nat.succ_mul]; exact Nat.mul_le_mul_right _ hi
  have hc : H.cells b = some cs := by unfold Heap.cells; rw [hg]
  have e1 : (cs.drop (i * s + j)).take n = (x.drop j).take n := by
    rw [← flat_at L i x h.sz hx, ← ht, List.drop_take, List.drop_take, List.take_take, List.drop_take, List.take_take, List.drop_drop]
    congr 1
    omega
  have hxl := h.sz x (List.mem_of_getElem? hx)
  unfold Heap.load
  simp only [hc, e1]
  rw [if_pos (by rw [Nat.beq_eq]; simp; omega)]
theorem OwnS.set (h : OwnS H e s base L b c) {cs : List Value} (hg : H.get b = some (.row cs e)) {i : Nat} {y : List Value} (hi : i < L.length) (hy : y.length = s) (ha : y.all one = true) :
    OwnS (H.put b (some (.row (splice cs (i * s) y) e))) e s base (L.set i y) b c := by
  obtain ⟨cs', hg', hl, ht⟩ := h.row
  rw [hg] at hg'; cases hg'
  have hle : i * s + s ≤ L.length * s := by rw [← Nat.succ_mul]; exact Nat.mul_le_mul_right _ hi
  refine ⟨h.lo, h.hi, ⟨_, by rw [gt_put_eq], by rw [List.length_set, splice_len (by omega)]; exact hl, ?_⟩, by rw [List.length_set]; exact h.len, h.cap, fun x hx => ?_, fun x hx => ?_⟩
  · rw [List.length_set, splice_take (by omega) hl, ht, flat_set L i y h.sz hy hi]
  · rcases List.mem_or_eq_of_mem_set hx with h1 | h1
    · exact h.sz x h1
    · rw [h1]; exact hy
  · rcases List.mem_or_eq_of_mem_set hx with h1 | h1
    · exact h.all x h1
    · rw [h1]; exact ha
theorem OwnS.heap (h : OwnS H e s base L b c) {H' : Heap} (hg : H'.get b = H.get b) (hn : H.next ≤ H'.next) : OwnS H' e s base L b c := by
  obtain ⟨cs, h1, h2, h3⟩ := h.row
  exact ⟨h.lo, Nat.lt_of_lt_of_le h.hi hn, ⟨cs, hg.trans h1, h2, h3⟩, h.len, h.cap, h.sz, h.all⟩
theorem OwnS.keep (h : OwnS H e s base L b c) {H' : Heap} (hx : HX H H') : OwnS H' e s base L b c := h.heap (hx.keep b h.hi) hx.next
theorem OwnS.take (h : OwnS H e s base L b c) {m : Nat} (hm : m ≤ L.length) : OwnS H e s base (L.take m) b c := by
  obtain ⟨cs, h1, h2, h3⟩ := h.row
  have hl : (L.take m).length = m := by rw [List.length_take]; omega
  have hle : m * s ≤ L.length * s := Nat.mul_le_mul_right _ hm
  refine ⟨h.lo, h.hi, ⟨cs, h1, by rw [hl]; omega, ?_⟩, by rw [hl]; exact Nat.le_trans hm h.len, h.cap, fun x hx => h.sz x (List.mem_of_mem_take hx), fun x hx => h.all x (List.mem_of_mem_take hx)⟩
  rw [hl]
  have h4 : (cs.take (L.length * s)).take (m * s) = L.flatten.take (m * s) := by rw [h3]
  rw [List.take_take, Nat.min_eq_left hle] at h4
  rw [h4]
  have h5 : L.flatten = (L.take m).flatten ++ (L.drop m).flatten := by rw [← List.flatten_append, List.take_append_drop]
  have h6 := flat_len (L.take m) fun x hx => h.sz x (List.mem_of_mem_take hx)
  rw [hl] at h6
  rw [h5, List.take_left' h6]
theorem OwnS.push (h : OwnS H e s base L b c) {cs : List Value} (hg : H.get b = some (.row cs e)) {y : List Value} (hy : y.length = s) (ha : y.all one = true) (hm : L.length + 1 ≤ maxLen) (hb : base ≤ H.next) :
    OwnS ((H.put b none).new (some (.row (cs.take (L.length * s) ++ y) e))) e s base (L ++ [y]) H.next (L.length + 1) := by
  obtain ⟨cs', h1, h2, h3⟩ := h.row
  rw [hg] at h1; cases h1
  refine ⟨hb, Nat.lt_succ_self _, ⟨_, gt_new_eq, ?_, ?_⟩, by simp, hm, fun x hx => ?_, fun x hx => ?_⟩
  · rw [List.length_append, List.length_append, List.length_take, hy, List.length_singleton, Nat.succ_mul]; omega
  · rw [h3, List.take_of_length_le, List.flatten_append]
    · simp
    · rw [List.length_append, flat_len L h.sz, hy, List.length_append, List.length_singleton, Nat.succ_mul]; exact Nat.le_refl _
  · rcases List.mem_append.1 hx with h5 | h5
    · exact h.sz x h5
    · simp at h5; rw [h5]; exact hy
  · rcases List.mem_append.1 hx with h5 | h5
    · exact h.all x h5
    · simp at h5; rw [h5]; exact ha
theorem OwnS.first {y : List Value} (hy : y.length = s) (ha : y.all one = true) (hb : base ≤ H.next) : OwnS (H.new (some (.row y e))) e s base [y] H.next 1 :=
  ⟨hb, Nat.lt_succ_self _, ⟨_, gt_new_eq, by simp [hy], by simp [← hy]⟩, by simp, by simp [maxLen], by simpa using hy, by simpa using ha⟩
end
structure RdS (H : Heap) (vs : List Value) (a : Option Addr) (c : Nat) : Prop where
  len : vs.length ≤ c
  cap : c ≤ maxLen
  get : ∀ i v, vs[i]? = some v → ∃ b o, a = some ⟨b, o, none⟩ ∧ H.load ⟨b, o + i, none⟩ 1 = some [v]
theorem RdS.keep {H H' : Heap} {vs : List Value} {a : Option Addr} {c : Nat} (h : RdS H vs a c) (hx : HX H H') (hw : H.wf) : RdS H' vs a c :=
  ⟨h.len, h.cap, fun i v hv => let ⟨b, o, ha, hl⟩ := h.get i v hv; ⟨b, o, ha, hx.load hw hl⟩⟩
theorem RdS.take {H : Heap} {vs : List Value} {a : Option Addr} {c : Nat} (h : RdS H vs a c) (m : Nat) : RdS H (vs.take m) a c :=
  ⟨by have := h.len; simp; omega, h.cap, fun i v hv => h.get i v (by rw [List.getElem?_take] at hv; split at hv; exact hv; cases hv)⟩
theorem RdS.nil {H : Heap} : RdS H [] none 0 := ⟨Nat.le_refl _, Nat.zero_le _, fun i v hv => by simp at hv⟩
end Go.Hb
end

-- Sop4
section
namespace Go.Hb
open Go Go.RowKit
section
variable {P : Program} {ok : Ok} {tm : Tr Value} {H : Heap} {fn : Func} {K : Value → Heap → Prop}
theorem load_len {a : Addr} {n : Nat} {l : List Value} (h : H.load a n = some l) : l.length = n := by
  unfold Heap.load at h
  split at h
  · simp only at h
    split at h
    · rename_i hh; cases h; rw [Nat.beq_eq] at hh; exact hh
    · cases h
  · cases h
theorem RdS.all {vs : List Value} {a : Option Addr} {c : Nat} (h : RdS H vs a c) (h0 : vs ≠ []) : ∃ b o, a = some ⟨b, o, none⟩ ∧ H.load ⟨b, o, none⟩ vs.length = some vs := by
  match vs, h0, h with
  | v :: r, _, h =>
    obtain ⟨b, o, ha, hl⟩ := h.get 0 v rfl
    refine ⟨b, o, ha, ?_⟩
    have key : ∃ cs, H.cells b = some cs ∧ ∀ i v', (v :: r)[i]? = some v' → cs[o + i]? = some v' := by
      cases hc : H.cells b with
      | none => unfold Heap.load at hl; simp only [hc] at hl; cases hl
      | some cs =>
        refine ⟨cs, rfl, fun i v' hi => ?_⟩
        obtain ⟨b', o', ha', hl'⟩ := h.get i v' hi
        rw [ha] at ha'
        cases ha'
        have hll := load_len hl'
        unfold Heap.load at hl'
        simp only [hc] at hl'
        split at hl'
        · simp only [Option.some.injEq] at hl'
          have : ((cs.drop (o + i)).take 1)[0]? = some v' := by rw [hl']; rfl
          simpa [List.getElem?_take, List.getElem?_drop] using this
        · cases hl'
    obtain ⟨cs, hc, hg⟩ := key
    have e : (cs.drop o).take (v :: r).length = v :: r := by
      apply List.ext_getElem?
      intro k
      rw [List.getElem?_take]
      by_cases hk : k < (v :: r).length
      · rw [if_pos hk, List.getElem?_drop, List.getElem?_eq_getElem hk, hg k _ (List.getElem?_eq_getElem hk)]
      · rw [if_neg hk, List.getElem?_eq_none (by omega)]
    unfold Heap.load
    simp only [hc, e]
    rw [if_pos (by rw [Nat.beq_eq])]
end
end Go.Hb
end

-- Law
section
namespace Go.Hb
open Go Go.RowKit
section
variable {P : Program}
theorem know_flat {N : Nat} {w0 : World} {τ : Nat → Value} {σ : Nat → Loc} {H : Heap} {w : World} {f : FuncId} {args : Array Value} {v : Value} (hv : flat v = true)
    (h : Calls P f args w fun e w' => e = .returned v ∧ Below w.heap.size w w') (hH : HR P N w0 τ σ H w) :
    Calls P f args w fun e w' => ∃ σ', EnR σ' τ (.ret v) e ∧ HR P N w0 τ σ' H w' ∧ Step σ H w σ' H w' := by
  refine h.mono fun e w' ⟨he, hB⟩ => ?_
  subst he
  have hlt := hH.lt
  refine ⟨σ, .flat _ hv, ⟨hH.below.trans (hB.mono hH.size), Nat.le_trans hH.size hB.size, hH.fresh, fun i B hi => (hH.blk i B hi).world fun b S es hb => hB.block b (hlt i b S es hb), hH.inj,
    fun i b S es hi => Nat.lt_of_lt_of_le (hlt i b S es hi) hB.size⟩, Nat.le_refl _, Ext.refl σ, fun i b S es hi => .inr (.inl ⟨S, es, hi⟩), fun b hb _ => hB.block b hb, hB.size, fun _ _ hg => ⟨rfl, hg⟩⟩
def kLaw (fa fv : FuncId) (f : FuncId) (args : List Value) (H : Heap) : Option (En × Heap) :=
  if f = fa then (match args with | [] => some (.ret (.bool true), H) | _ => none)
  else if f = fv then (match args with | [.string s] => if s.size ≤ 9223372036854775807 then some (.ret (.bool (Lib.validD s.data.toList)), H) else none | _ => none)
  else none
def okLaw (mask : Nat) (fa fv : FuncId) : Ok := ⟨mask, kLaw fa fv⟩
end
end Go.Hb
end

-- LawB
section
namespace Go.Hb
open Go Go.RowKit
section
variable {P : Program}
def okVal (mask : Nat) (fv : FuncId) : Ok := ⟨mask, fun f args H => if f = fv then (match args with | [.string s] => if s.size ≤ 9223372036854775807 then some (.ret (.bool (Lib.validD s.data.toList)), H) else none | _ => none) else none⟩
theorem okFns_val {N mask : Nat} {w0 : World} {fv : FuncId} (hok : ((List.range P.funcs.size).all fun f => !mask.testBit f || okFn P f) = true)
    (hv : ∀ (s : ByteArray) w, s.size ≤ 9223372036854775807 → Below N w0 w → Calls P fv #[.string s] w fun e w' => e = .returned (.bool (Lib.validD s.data.toList)) ∧ Below w.heap.size w w') : OkFns P N w0 (okVal mask fv) := by
  refine ⟨okFns_code hok, fun τ f args args' H en H' w σ _ hk hl hH _ => ?_⟩
  simp only [okVal] at hk
  split at hk
  · rename_i hf
    subst hf
    split at hk
    · rename_i s
      split at hk
      · rename_i hs
        cases hk
        have hlen : args'.size = 1 := by have := hl.1; simpa using this.symm
        obtain ⟨v, rfl⟩ : ∃ v, args' = #[v] := by
          match args', hlen with
          | ⟨[v]⟩, _ => exact ⟨v, rfl⟩
        have hvr := hl.2 0 (.string s) v rfl rfl
        rw [VR.flat_eq hvr rfl]
        exact know_flat rfl (hv s w hs hH.below) hH
      · cases hk
    · cases hk
  · cases hk
theorem calls_trueB {ok : Ok} {n nx : Nat} {f : FuncId} {args : List Value} {args' : Array Value} {τ : Nat → Value} (hτ : ∀ j, (τ j).oneCell' = true) (hm : P.follows .mixedOrders = true) (W : World)
    (hOK : OkFns P W.heap.size W ok) (hnx : P.globals.size ≤ nx) (hrun : retTrue (dcall P ok n f args ⟨nx, .nil⟩) = true) (hl : LR (sig0 nx) τ args args'.toList) :
    Calls P f args' W fun e W' => e = .returned (.bool true) ∧ Below W.heap.size W W' := by
  obtain ⟨H', h⟩ := retTrue_inv hrun
  refine (calls_of_run hτ hm hOK h hl (HR.start nx W) (GR.start hnx)).mono fun e w' he => ?_
  obtain ⟨σ', hen, hH, _⟩ := he
  cases e with
  | returned v' => exact ⟨by rw [show v' = .bool true from VR.flat_eq hen rfl], hH.below⟩
  | panicked _ => exact hen.elim
  | outgrown => exact hen.elim
end
end Go.Hb
end

-- InB
section
namespace Go.Hb
open Go Go.RowKit Go.ChangeShapes Go.WideShapes
section
variable {P : Program} {H : Type} {enc : TypeId × Value → H}
theorem contract_runB {ok : Ok} {n nx : Nat} {f : FuncId} {fn : Func} {s : ChangeSpec} {W : World} {base : Nat} {args : Array Value} {ds gs : List (DataW H)} {before : List MemPlace}
    (hm : P.follows .mixedOrders = true) (hOK : OkFns P W.heap.size W ok) (hnx : P.globals.size ≤ nx)
    (hrun : retTrue (dcall P ok n f (toksFrom 0 (fn.params.toList.map (shOf P))) ⟨nx, .nil⟩) = true)
    (hl : laidOutB P = true) (hts : fn.params.toList.all (fun t => P.readableRec t && decide (t < P.types.size)) = true) (hvs : s.vars = []) (hr : fn.resultTypes = #[4]) (hb : P.underlying 4 = some .bool)
    (hfn : ∀ ds : List (DataW H), ds.length = fn.params.size → (s.fn H (ds ++ [])).results = [.lit (.bool true)] ∧ (s.fn H (ds ++ [])).args = ds ∧ (s.fn H (ds ++ [])).vars = [])
    (hval : ∀ (j : Nat) t v, fn.params[j]? = some t → args[j]? = some v → Value.okWide P W .any base t v)
    (hW : DataW.Whole enc P fn.params.toList s.vars false W args.toList ds gs before) :
    Calls P f args W fun e W' => ∃ v, e = .returned v ∧ s.post enc P fn false true false false W args v W' := by
  have hlen : ∀ {ts : List TypeId} {vs : List Value} {ds : List (DataW H)} {ps : List MemPlace}, DataW.TrodAll enc P W 0 (fun _ => true) true ts vs ds ps → ts.length = vs.length := by
    intro ts
    induction ts with
    | nil => intro vs ds ps h; obtain ⟨rfl, _, _⟩ := trodAll_nil h; rfl
    | cons t ts ih => intro vs ds ps h; obtain ⟨v, vs1, d, ds1, p, q, rfl, rfl, rfl, h1, h2⟩ := trodAll_cons h; simp [ih h2]
  have hW2 := hW
  obtain ⟨p, q, hA, _⟩ := hW2
  have hF : FitsL (fn.params.toList.map (shOf P)) args.toList := fitsL_of (hlen hA) fun j t v ht hv => hval j t v (by simpa using ht) (by simpa using hv)
  exact contract_of hl hts hvs hr hb hfn hW (calls_trueB (tokT_one hF) hm W hOK hnx hrun (toks_args hF))
end
end Go.Hb
end
