/- A region that draws, on the abstract machine: its stages; what every operation that is no effect will have shown. -/
import Derived.Test.YtgcbbaeokigbdaaDoorHbDraw
namespace Go.Hb
open Go Go.RowKit

section
variable {P : Program} {ops : Array Oper} {b : Array Nat} {effs : List Nat}

def bit (m i : Nat) : Prop := m.testBit i = true

theorem bit_done1 {done e i : Nat} : bit (done ||| b.getD e 0 ||| 2 ^ e) i ↔ bit done i ∨ anc b e i ∨ i = e := by
  unfold bit anc
  simp only [Nat.testBit_or, Bool.or_eq_true, Nat.testBit_two_pow, decide_eq_true_eq, or_assoc]
  constructor
  · rintro (h | h | h)
    · exact .inl h
    · exact .inr (.inl h)
    · exact .inr (.inr h.symm)
  · rintro (h | h | h)
    · exact .inl h
    · exact .inr (.inl h)
    · exact .inr (.inr h.symm)

theorem RC.sorted (R : RC ops b effs) : effs.Pairwise (· < ·) := by
  rw [R.hf]; exact List.Pairwise.filter _ List.pairwise_lt_range

theorem RC.mem_effs (R : RC ops b effs) {i : Nat} : i ∈ effs ↔ ∃ o, ops[i]? = some o ∧ isEff o = true := by
  rw [R.hf, List.mem_filter]
  constructor
  · rintro ⟨h1, h2⟩
    obtain ⟨o, ho⟩ := some_of_lt (List.mem_range.1 h1)
    rw [ho] at h2
    exact ⟨o, ho, h2⟩
  · rintro ⟨o, ho, h⟩
    exact ⟨List.mem_range.2 (lt_of_some ho), by rw [ho]; exact h⟩

theorem chain_head {e : Nat} {es : List Nat} (h : chainOK ops b (e :: es) = true) : (∀ f ∈ es, anc b f e) ∨ ∃ f, es = [f] ∧ isSt ops e = true ∧ isSt ops f = true := by
  unfold chainOK at h
  rw [Bool.and_eq_true] at h
  have h1 := h.1
  split at h1
  · rename_i f
    rw [Bool.or_eq_true, Bool.and_eq_true] at h1
    rcases h1 with h1 | h1
    · refine .inl fun g hg => ?_
      rw [List.mem_singleton] at hg
      subst hg; exact h1
    · exact .inr ⟨f, rfl, h1.1, h1.2⟩
  · exact .inl fun f hf => List.all_eq_true.1 h1 f hf
theorem chain_tail {e : Nat} {es : List Nat} (h : chainOK ops b (e :: es) = true) : chainOK ops b es = true := by
  unfold chainOK at h
  rw [Bool.and_eq_true] at h
  exact h.2

theorem RC.topo (R : RC ops b effs) {es : List Nat} (h : es.Pairwise (· < ·)) : es.Pairwise (fun e f => e ≠ f ∧ ¬ anc b e f) :=
  h.imp fun {e f} hlt => ⟨by omega, fun ha => by have := R.anc_lt _ _ ha; omega⟩

/-- how far the machine's run has come -/
structure DI (ops : Array Oper) (b : Array Nat) (effs : List Nat) (tm0 : Tr Value) (es : List Nat) (done : Nat) (tm : Tr Value) (k : Nat) : Prop where
  ds : DS ops b (bit done)
  sfx : ∃ pre, effs.Perm (pre ++ es) ∧ (∀ e ∈ pre, bit done e) ∧ pre.length = k
  ord : chainOK ops b es = true
  topo : es.Pairwise (fun e f => e ≠ f ∧ ¬ anc b e f)
  noe : ∀ e ∈ es, ¬ bit done e
  t0 : ∀ t, ¬ written ops (bit done) t → tm.get t = tm0.get t

theorem mem_pending {m done i : Nat} : i ∈ pending (List.range ops.size) effs m done ↔ i < ops.size ∧ bit m i ∧ ¬ bit done i ∧ i ∉ effs := by
  unfold pending bit
  simp [List.mem_filter, and_assoc]

theorem mem_rest {done i : Nat} : i ∈ ((List.range ops.size).filter fun i => !done.testBit i && !effs.contains i) ↔ i < ops.size ∧ ¬ bit done i ∧ i ∉ effs := by
  unfold bit
  simp [List.mem_filter]

theorem DI.next (R : RC ops b effs) {tm0 tm tm' : Tr Value} {e : Nat} {es : List Nat} {done k : Nat} (h : DI ops b effs tm0 (e :: es) done tm k)
    (h0 : ∀ t, ¬ written ops (bit (done ||| b.getD e 0 ||| 2 ^ e)) t → tm'.get t = tm0.get t) : DI ops b effs tm0 es (done ||| b.getD e 0 ||| 2 ^ e) tm' (k + 1) := by
  obtain ⟨pre, hp, hpd, hk⟩ := h.sfx
  have he : e ∈ effs := hp.mem_iff.2 (by simp)
  obtain ⟨o, ho, _⟩ := R.mem_effs.1 he
  have ht := List.pairwise_cons.1 h.topo
  refine ⟨fun i hi => ?_, ⟨pre ++ [e], by rw [List.append_assoc]; exact hp, fun f hf => ?_, by simp [hk]⟩, chain_tail h.ord, ht.2, fun f hf hb => ?_, h0⟩
  · rw [bit_done1] at hi
    rcases hi with hi | hi | rfl
    · exact ⟨(h.ds i hi).1, fun j hj => bit_done1.2 (.inl ((h.ds i hi).2 j hj))⟩
    · exact ⟨by have := R.anc_lt _ _ hi; have := lt_of_some ho; omega, fun j hj => bit_done1.2 (.inr (.inl (R.anc_trans _ _ _ hi hj)))⟩
    · exact ⟨lt_of_some ho, fun j hj => bit_done1.2 (.inr (.inl hj))⟩
  · rcases List.mem_append.1 hf with hf | hf
    · exact bit_done1.2 (.inl (hpd f hf))
    · simp at hf; exact bit_done1.2 (.inr (.inr hf))
  · have htf := ht.1 f hf
    rw [bit_done1] at hb
    rcases hb with hb | hb | hb
    · exact h.noe f (List.mem_cons_of_mem _ hf) hb
    · exact htf.2 hb
    · exact htf.1 hb.symm

/-- what one stage's list must be -/
theorem DI.list (R : RC ops b effs) {tm0 tm : Tr Value} {es : List Nat} {done k : Nat} (h : DI ops b effs tm0 es done tm k) {L : List Nat}
    (hm : ∀ i ∈ L, i < ops.size ∧ ¬ bit done i ∧ i ∉ effs) (hc : ∀ i ∈ L, ∀ j, anc b i j → ¬ bit done j → j ∉ effs → j ∈ L) (he : ∀ i ∈ L, ∀ j, anc b i j → j ∈ es → False) :
    ∀ i ∈ L, i < ops.size ∧ ¬ bit done i ∧ (∀ o, ops[i]? = some o → isEff o = false) ∧ ∀ j, anc b i j → bit done j ∨ j ∈ L := by
  intro i hi
  obtain ⟨h1, h2, h3⟩ := hm i hi
  refine ⟨h1, h2, fun o ho => ?_, fun j hj => ?_⟩
  · cases hx : isEff o with
    | false => rfl
    | true => exact absurd (R.mem_effs.2 ⟨o, ho, hx⟩) h3
  · by_cases hd : bit done j
    · exact .inl hd
    · refine .inr (hc i hi j hj hd fun hje => ?_)
      obtain ⟨pre, hp, hpd, _⟩ := h.sfx
      rw [hp.mem_iff] at hje
      rcases List.mem_append.1 hje with hje | hje
      · exact hd (hpd j hje)
      · exact he i hi j hj hje

theorem DI.pend (R : RC ops b effs) {tm0 tm : Tr Value} {e : Nat} {es : List Nat} {done k : Nat} (h : DI ops b effs tm0 (e :: es) done tm k) :
    ∀ i ∈ pending (List.range ops.size) effs (b.getD e 0) done, i < ops.size ∧ ¬ bit done i ∧ (∀ o, ops[i]? = some o → isEff o = false) ∧ ∀ j, anc b i j → bit done j ∨ j ∈ pending (List.range ops.size) effs (b.getD e 0) done := by
  refine DI.list R h (fun i hi => ?_) (fun i hi j hj hd hne => ?_) (fun i hi j hj hje => ?_)
  · rw [mem_pending] at hi; exact ⟨hi.1, hi.2.2⟩
  · rw [mem_pending] at hi ⊢
    exact ⟨by have := R.anc_lt _ _ hj; omega, R.anc_trans _ _ _ hi.2.1 hj, hd, hne⟩
  · rw [mem_pending] at hi
    have hej := R.anc_trans _ _ _ hi.2.1 hj
    rcases List.mem_cons.1 hje with rfl | hje
    · have := R.anc_lt _ _ hej; omega
    · exact ((List.pairwise_cons.1 h.topo).1 j hje).2 hej

theorem DI.last (R : RC ops b effs) {tm0 tm : Tr Value} {done k : Nat} (h : DI ops b effs tm0 [] done tm k) :
    ∀ i ∈ ((List.range ops.size).filter fun i => !done.testBit i && !effs.contains i), i < ops.size ∧ ¬ bit done i ∧ (∀ o, ops[i]? = some o → isEff o = false) ∧
      ∀ j, anc b i j → bit done j ∨ j ∈ ((List.range ops.size).filter fun i => !done.testBit i && !effs.contains i) := by
  refine DI.list R h (fun i hi => mem_rest.1 hi) (fun i hi j hj hd hne => ?_) (fun i hi j hj hje => by cases hje)
  rw [mem_rest] at hi ⊢
  exact ⟨by have := R.anc_lt _ _ hj; omega, hd, hne⟩

theorem pending_sorted {m done : Nat} : (pending (List.range ops.size) effs m done).Pairwise (· < ·) := List.Pairwise.filter _ List.pairwise_lt_range
theorem rest_sorted {done : Nat} : ((List.range ops.size).filter fun i => !done.testBit i && !effs.contains i).Pairwise (· < ·) := List.Pairwise.filter _ List.pairwise_lt_range

variable {ok : Ok} {n : Nat} {x : Ctx} {base : Nat} {G : Heap} {gs : List Heap} {ds : List Deferred} {tm0 tm : Tr Value} {st : St} {done : Nat} {es : List Nat}

theorem dstage_nil (h : dstage P ok n x ops b effs base [] done (G :: gs) tm ds = some st) :
    ∃ tm1 H1, dnon P ops b effs base (G :: gs) ((List.range ops.size).filter fun i => !done.testBit i && !effs.contains i) tm G = some (tm1, H1) ∧ st = ⟨tm1, ds, H1⟩ := by
  cases n with
  | zero => unfold dstage at h; cases h
  | succ n =>
    unfold dstage at h
    simp only at h
    split at h
    · rename_i tm1 H1 hd; cases h; exact ⟨tm1, H1, hd, rfl⟩
    · cases h

theorem dstage_cons {e : Nat} (h : dstage P ok n x ops b effs base (e :: es) done (G :: gs) tm ds = some st) :
    ∃ n' tm1 H1 o v ds1 H2, n = n' + 1 ∧ dnon P ops b effs base (G :: gs) (pending (List.range ops.size) effs (b.getD e 0) done) tm G = some (tm1, H1) ∧ ops[e]? = some o ∧
      ddraw P ok n' x ops b effs base es (done ||| b.getD e 0 ||| 2 ^ e) (H2 :: G :: gs) (putD tm1 o.dst v) ds1 = some st ∧
      ((dwanted ops tm1 o = some false ∧ v = undef ∧ ds1 = ds ∧ H2 = H1) ∨ (dwanted ops tm1 o = some true ∧ dop1 P ok n' x o (ev tm1) ds H1 = some (.val v ds1 H2))) := by
  cases n with
  | zero => unfold dstage at h; cases h
  | succ n =>
    unfold dstage at h
    simp only at h
    split at h
    · cases h
    · rename_i tm1 H1 hd
      split at h
      · cases h
      · rename_i o ho
        split at h
        · cases h
        · rename_i hw
          exact ⟨n, tm1, H1, o, undef, ds, H1, rfl, hd, ho, h, .inl ⟨hw, rfl, rfl, rfl⟩⟩
        · rename_i hw
          split at h
          · rename_i v ds1 H2 h1
            exact ⟨n, tm1, H1, o, v, ds1, H2, rfl, hd, ho, h, .inr ⟨hw, h1⟩⟩
          · cases h

theorem twin_inv {e f : Nat} (h : twin b es = some (e, f)) : es = [e, f] ∧ (b.getD f 0).testBit e = false ∧ e < f := by
  unfold twin at h
  split at h
  · split at h
    · cases h
    · rename_i hc
      cases h
      rw [Bool.or_eq_false_iff] at hc
      refine ⟨rfl, hc.1, ?_⟩
      have h2 := hc.2
      rw [← Bool.not_eq_true, Nat.ble_eq] at h2
      omega
  · cases h

theorem ddraw_stage (h : ddraw P ok n x ops b effs base es done (G :: gs) tm ds = some st) : ∃ n', n = n' + 1 ∧ dstage P ok n' x ops b effs base es done (G :: gs) tm ds = some st := by
  cases n with
  | zero => unfold ddraw at h; cases h
  | succ n =>
    unfold ddraw at h
    split at h
    · exact ⟨n, rfl, h⟩
    · rename_i e f ht
      obtain ⟨rfl, _, _⟩ := twin_inv ht
      split at h
      · rename_i st1 st2 h1 h2
        split at h
        · split at h
          · cases h; exact ⟨n, rfl, h1⟩
          · cases h
        · cases h
      · cases h

theorem ddraw_twin {e f : Nat} (hb : (b.getD f 0).testBit e = false) (hlt : e < f) (h : ddraw P ok n x ops b effs base [e, f] done (G :: gs) tm ds = some st) :
    ∃ st' p q, ddraw P ok n x ops b effs base [f, e] done (G :: gs) tm ds = some st' ∧ dtwin P ops b effs base done (G :: gs) tm e f = some (p, q) ∧ agree ops base p q st st' = true := by
  have ht : twin b [e, f] = some (e, f) := by
    have h2 : Nat.ble f e = false := by rw [← Bool.not_eq_true, Nat.ble_eq]; omega
    unfold twin
    simp only [hb, h2, Bool.or_self]
  have ht' : twin b [f, e] = none := by
    have h2 : Nat.ble e f = true := by rw [Nat.ble_eq]; omega
    unfold twin
    simp only [h2, Bool.or_true]
  cases n with
  | zero => unfold ddraw at h; cases h
  | succ n =>
    unfold ddraw at h
    rw [ht] at h
    simp only at h
    split at h
    · rename_i st1 st2 h1 h2
      split at h
      · rename_i p q hpq
        split at h
        · rename_i hag
          cases h
          refine ⟨st2, p, q, ?_, hpq, hag⟩
          unfold ddraw
          rw [ht']
          exact h2
        · cases h
      · cases h
    · cases h

theorem ddraw_nil (h : ddraw P ok n x ops b effs base [] done (G :: gs) tm ds = some st) :
    ∃ tm1 H1, dnon P ops b effs base (G :: gs) ((List.range ops.size).filter fun i => !done.testBit i && !effs.contains i) tm G = some (tm1, H1) ∧ st = ⟨tm1, ds, H1⟩ := by
  obtain ⟨n', _, h⟩ := ddraw_stage h
  exact dstage_nil h

theorem ddraw_cons {e : Nat} (h : ddraw P ok n x ops b effs base (e :: es) done (G :: gs) tm ds = some st) :
    ∃ n' tm1 H1 o v ds1 H2, n' < n ∧ dnon P ops b effs base (G :: gs) (pending (List.range ops.size) effs (b.getD e 0) done) tm G = some (tm1, H1) ∧ ops[e]? = some o ∧
      ddraw P ok n' x ops b effs base es (done ||| b.getD e 0 ||| 2 ^ e) (H2 :: G :: gs) (putD tm1 o.dst v) ds1 = some st ∧
      ((dwanted ops tm1 o = some false ∧ v = undef ∧ ds1 = ds ∧ H2 = H1) ∨ (dwanted ops tm1 o = some true ∧ dop1 P ok n' x o (ev tm1) ds H1 = some (.val v ds1 H2))) := by
  obtain ⟨m, rfl, hs⟩ := ddraw_stage h
  obtain ⟨n', tm1, H1, o, v, ds1, H2, rfl, hr⟩ := dstage_cons hs
  exact ⟨n', tm1, H1, o, v, ds1, H2, by omega, hr⟩

theorem ddraw_keeps (R : RC ops b effs) {t : Tmp} : ∀ {es : List Nat} {n done : Nat} {G : Heap} {gs : List Heap} {tm : Tr Value} {ds : List Deferred} {k : Nat},
    ddraw P ok n x ops b effs base es done (G :: gs) tm ds = some st → (∀ e ∈ es, ¬ bit done e) → es.Pairwise (fun e f => e ≠ f ∧ ¬ anc b e f) → (∀ i o, ops[i]? = some o → o.dst = some t → bit done i) → st.tm.get t = tm.get t
  | [], n, done, G, gs, tm, ds, k, h, _, _, ht => by
    obtain ⟨tm1, H1, hd, rfl⟩ := ddraw_nil h
    exact dnon_keeps hd fun i hi o ho hd => (mem_rest.1 hi).2.1 (ht i o ho hd)
  | e :: es, n, done, G, gs, tm, ds, k, h, he, hs, ht => by
    obtain ⟨n', tm1, H1, o, v, ds1, H2, _, hd, ho, h', _⟩ := ddraw_cons h
    have hs := List.pairwise_cons.1 hs
    rw [ddraw_keeps R (k := k) h' (fun f hf hb => ?_) hs.2 (fun i o ho hd => bit_done1.2 (.inl (ht i o ho hd))), (putD_get _ _ _ t).2 (fun hdst => he e (by simp) (ht e o ho hdst)),
      dnon_keeps hd fun i hi o ho hd => (mem_pending.1 hi).2.2.1 (ht i o ho hd)]
    have := hs.1 f hf
    rcases bit_done1.1 hb with hb | hb | hb
    · exact he f (List.mem_cons_of_mem _ hf) hb
    · exact this.2 hb
    · exact this.1 hb.symm

/-- slots that are written by one that is done, or is about to be, keep what they hold -/
theorem stage_final (R : RC ops b effs) {e : Nat} {k : Nat} (D : DI ops b effs tm0 (e :: es) done tm k) {tm1 : Tr Value} {o : Oper} {v : Value} {n' : Nat} {H2 : Heap} {ds1 : List Deferred} (ho : ops[e]? = some o)
    (h' : ddraw P ok n' x ops b effs base es (done ||| b.getD e 0 ||| 2 ^ e) (H2 :: G :: gs) (putD tm1 o.dst v) ds1 = some st) :
    (∀ t, written ops (fun i => bit done i ∨ i ∈ pending (List.range ops.size) effs (b.getD e 0) done) t → tm1.get t = st.tm.get t) ∧ (∀ d, o.dst = some d → st.tm.get d = some v) := by
  have hs2 := List.pairwise_cons.1 D.topo
  have hno : ∀ f ∈ es, ¬ bit (done ||| b.getD e 0 ||| 2 ^ e) f := fun f hf hb => by
    have := hs2.1 f hf
    rcases bit_done1.1 hb with hb | hb | hb
    · exact D.noe f (List.mem_cons_of_mem _ hf) hb
    · exact this.2 hb
    · exact this.1 hb.symm
  have he : ¬ bit done e := D.noe e (by simp)
  constructor
  · rintro t ⟨p, op, hpp, hop, hd⟩
    have hpe : p ≠ e := by
      rintro rfl
      rcases hpp with hpp | hpp
      · exact he hpp
      · have h2 := (mem_pending.1 hpp).2.1
        have := R.anc_lt _ _ h2; omega
    rw [ddraw_keeps R (k := k) h' hno hs2.2 (fun i oi hoi hdi => ?_), (putD_get _ _ _ t).2 ((R.slot p e op o t hop ho hpe hd).1)]
    have hip : i = p := by
      by_cases h : p = i
      · exact h.symm
      · exact absurd hdi (R.slot p i op oi t hop hoi h hd).1
    subst hip
    rcases hpp with hpp | hpp
    · exact bit_done1.2 (.inl hpp)
    · exact bit_done1.2 (.inr (.inl (mem_pending.1 hpp).2.1))
  · intro d hd
    rw [ddraw_keeps R (k := k) h' hno hs2.2 (fun i oi hoi hdi => ?_), (putD_get _ _ _ d).1 hd]
    have hip : i = e := by
      by_cases h : e = i
      · exact h.symm
      · exact absurd hdi (R.slot e i o oi d ho hoi h hd).1
    exact bit_done1.2 (.inr (.inr hip))

theorem stage_t0 (R : RC ops b effs) {e : Nat} {tm1 : Tr Value} {o : Oper} {v : Value} (ho : ops[e]? = some o)
    (h0 : ∀ t, ¬ written ops (fun i => bit done i ∨ i ∈ pending (List.range ops.size) effs (b.getD e 0) done) t → tm1.get t = tm0.get t) :
    ∀ t, ¬ written ops (bit (done ||| b.getD e 0 ||| 2 ^ e)) t → (putD tm1 o.dst v).get t = tm0.get t := by
  intro t ht
  rw [(putD_get _ _ _ t).2 (fun hd => ht ⟨e, o, bit_done1.2 (.inr (.inr rfl)), ho, hd⟩)]
  refine h0 t fun hw => ht (written_mono (fun i hi => ?_) hw)
  rcases hi with hi | hi
  · exact bit_done1.2 (.inl hi)
  · exact bit_done1.2 (.inr (.inl (mem_pending.1 hi).2.1))

/-- the facts of every operation that is no effect and not yet done -/
theorem ddraw_facts (R : RC ops b effs) : ∀ {es : List Nat} {n done : Nat} {G : Heap} {gs : List Heap} {tm : Tr Value} {ds : List Deferred} {k : Nat},
    ddraw P ok n x ops b effs base es done (G :: gs) tm ds = some st → DI ops b effs tm0 es done tm k →
    ∀ i o, ops[i]? = some o → isEff o = false → ¬ bit done i → ∀ pre G' post, G :: gs = pre ++ G' :: post → effsIn effs (b.getD i 0) ≤ post.length → FN P ops b base tm0 st.tm i o G'
  | [], n, done, G, gs, tm, ds, k, h, D, i, o, ho, hie, hid => by
    obtain ⟨tm1, H1, hd, rfl⟩ := ddraw_nil h
    have := dnon_facts R (tmF := tm1) hd rest_sorted D.ds (D.last R) (fun t _ => rfl) D.t0
    exact this.1 i (mem_rest.2 ⟨lt_of_some ho, hid, fun he => by
      obtain ⟨o', ho', he'⟩ := R.mem_effs.1 he
      rw [ho] at ho'
      cases ho'
      rw [hie] at he'
      cases he'⟩) o ho
  | e :: es, n, done, G, gs, tm, ds, k, h, D, i, o, ho, hie, hid => by
    obtain ⟨n', tm1, H1, oe, v, ds1, H2, _, hd, hoe, h', _⟩ := ddraw_cons h
    obtain ⟨f1, f2⟩ := stage_final R D hoe h'
    have hfac := dnon_facts R (tmF := st.tm) hd pending_sorted D.ds (D.pend R) f1 D.t0
    have hne : i ∉ effs := fun he => by
      obtain ⟨o', ho', he'⟩ := R.mem_effs.1 he
      rw [ho] at ho'
      cases ho'
      rw [hie] at he'
      cases he'
    by_cases hi : anc b e i
    · exact hfac.1 i (mem_pending.2 ⟨lt_of_some ho, hi, hid, hne⟩) o ho
    · intro pre G' post hhs hle
      refine ddraw_facts R h' (D.next R (stage_t0 R hoe hfac.2.1)) i o ho hie (fun hb => ?_) (H2 :: pre) G' post (by rw [hhs]; rfl) hle
      rcases bit_done1.1 hb with hb | hb | rfl
      · exact hid hb
      · exact hi hb
      · exact hne (by obtain ⟨pre, hp, _⟩ := D.sfx; exact hp.mem_iff.2 (by simp))
end
end Go.Hb
