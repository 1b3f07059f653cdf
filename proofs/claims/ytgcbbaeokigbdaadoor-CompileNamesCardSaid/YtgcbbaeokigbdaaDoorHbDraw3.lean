/- A region that draws: whatever order is drawn, the machine's run tells the outcome. -/
import Derived.Test.YtgcbbaeokigbdaaDoorHbDraw2
import Derived.OrdersIn
namespace Go.Hb
open Go Go.RowKit

def DsR (σ : Nat → Loc) (τ : Nat → Value) : List Deferred → List Deferred → Prop
  | [], [] => True
  | d :: ds, d' :: ds' => DfR σ τ d d' ∧ DsR σ τ ds ds'
  | _, _ => False

/-- globals stand where they stand -/
def GR (P : Program) (σ : Nat → Loc) : Prop := ∀ g, g < P.globals.size → σ g = .dead ∨ ∃ S es, σ g = .live g S es

section
variable {P : Program} {N : Nat} {w0 : World} {τ : Nat → Value} {σ σ' : Nat → Loc} {H H' : Heap} {w w' : World}

theorem RA.ext (he : Ext σ σ') {x y : Array Value} (h : RA σ τ x y) : RA σ' τ x y := LR.ext he h

theorem DfR.ext (he : Ext σ σ') {d d' : Deferred} (h : DfR σ τ d d') : DfR σ' τ d d' := by
  refine ⟨h.1.ext he, ?_⟩
  rcases h.2 with ⟨f, c, c', h1, h2, h3⟩ | ⟨l, l', h1, h2, h3⟩
  · exact .inl ⟨f, c, c', h1, h2, h3.ext he⟩
  · exact .inr ⟨l, l', h1, h2, h3.ext he⟩

theorem DsR.ext (he : Ext σ σ') : ∀ {ds ds' : List Deferred}, DsR σ τ ds ds' → DsR σ' τ ds ds'
  | [], [], _ => trivial
  | _ :: _, _ :: _, h => ⟨h.1.ext he, DsR.ext he h.2⟩
  | [], _ :: _, h => h.elim
  | _ :: _, [], h => h.elim

theorem GR.ext (h : GR P σ) (he : Ext σ σ') : GR P σ' := by
  intro g hg
  rcases he g with h1 | h1 | ⟨_, h1⟩
  · rcases h g hg with h2 | ⟨S, es, h2⟩ <;> rw [h1] at h2 <;> cases h2
  · rw [h1]; exact h g hg
  · exact .inl h1

theorem GR.ptr (h : GR P σ) {g : Nat} (hg : g < P.globals.size) : VR σ τ (.pointer (some ⟨g, 0, none⟩)) (.pointer (some ⟨g, 0, none⟩)) := by
  refine .ptr _ _ ?_
  unfold AR
  rcases h g hg with h1 | ⟨S, es, h1⟩
  · simp only [h1]
  · simp [h1]

/-- a block known of aside is kept by a step that knows nothing of it -/
theorem BlkR.step {B : Blk} {i : Nat} (h : BlkR P N σ τ w (σ i) B) (hH : HR P N w0 τ σ H w) (hs : Step σ H w σ' H' w') (hg : H.get i = none) : BlkR P N σ' τ w' (σ' i) B := by
  obtain ⟨b, S, es, hl⟩ := h.live
  have hk := hs.keep i (.inr (by rw [hl]; simp)) hg
  rw [hk.1]
  refine (h.ext hs.ext).world fun c S' es' hc => ?_
  refine hs.frame c (hH.lt i c S' es' hc) fun j S2 es2 hj => ?_
  rw [hH.inj j i c S2 es2 S' es' hj hc]; exact hg

theorem HR.adopt (h : HR P N w0 τ σ H w) {i : Nat} {B : Blk} (hB : BlkR P N σ τ w (σ i) B) : HR P N w0 τ σ (H.put i (some B)) w := by
  refine ⟨h.below, h.size, h.fresh, fun j C hj => ?_, h.inj, h.lt⟩
  rw [Heap.get_put] at hj
  by_cases hji : j = i
  · rw [if_pos hji] at hj; cases hj; rw [hji]; exact hB
  · rw [if_neg hji] at hj; exact h.blk j C hj

theorem HR.extra (h : HR P N w0 τ σ H w) {i : Nat} (ob : Obj) (S es : Nat) (hi : i < H.next) (hn : σ i = .none) :
    HR P N w0 τ (upd σ i (.live w.heap.size S es)) H (w.alloc ob) := by
  have he : Ext σ (upd σ i (.live w.heap.size S es)) := fun j => by
    by_cases hj : j = i
    · rw [hj]; exact .inl hn
    · exact .inr (.inl (upd_other _ _ hj))
  have hsz : (w.alloc ob).heap.size = w.heap.size + 1 := by simp
  have hlt := h.lt
  refine ⟨h.below.trans ⟨rfl, rfl, rfl, by rw [hsz]; omega, fun k hk => Below.heap_alloc w _ k (Nat.lt_of_lt_of_le hk h.size)⟩, by have := h.size; omega, fun j hj => ?_, fun j C hj => ?_, fun j k b S1 e1 S2 e2 hj hk => ?_, fun j b S1 e1 hj => ?_⟩
  · rw [upd_other _ _ (by omega)]; exact h.fresh j hj
  · have hB := h.blk j C hj
    have hji : j ≠ i := fun e => by
      obtain ⟨b, S', es', hl⟩ := hB.live
      rw [e, hn] at hl; cases hl
    rw [upd_other _ _ hji]
    exact (hB.ext he).world fun c S' es' hc => Below.heap_alloc w _ c (hlt j c S' es' hc)
  · by_cases hj1 : j = i
    · by_cases hk1 : k = i
      · rw [hj1, hk1]
      · rw [hj1, upd_same] at hj; cases hj
        rw [upd_other _ _ hk1] at hk
        have := hlt k _ _ _ hk; omega
    · rw [upd_other _ _ hj1] at hj
      by_cases hk1 : k = i
      · rw [hk1, upd_same] at hk; cases hk
        have := hlt j _ _ _ hj; omega
      · rw [upd_other _ _ hk1] at hk
        exact h.inj j k b S1 e1 S2 e2 hj hk
  · by_cases hj1 : j = i
    · rw [hj1, upd_same] at hj; cases hj; omega
    · rw [upd_other _ _ hj1] at hj; have := hlt j b S1 e1 hj; omega

theorem Step.extra {σ0 : Nat → Loc} {H0 : Heap} {w1 : World} (h : Step σ0 H0 w1 σ H w) {i : Nat} (ob : Obj) (S es : Nat) (hi : H0.next ≤ i) (h0 : σ0 i = .none) :
    Step σ0 H0 w1 (upd σ i (.live w.heap.size S es)) H (w.alloc ob) := by
  have hsz : (w.alloc ob).heap.size = w.heap.size + 1 := by simp
  refine ⟨h.next, fun j => ?_, fun j b S1 e1 hj => ?_, fun b hb hn => ?_, by have := h.size; omega, fun j hj hg => ?_⟩
  · by_cases hji : j = i
    · rw [hji]; exact .inl h0
    · rw [upd_other _ _ hji]; exact h.ext j
  · by_cases hji : j = i
    · rw [hji, upd_same] at hj; cases hj; exact .inl h.size
    · rw [upd_other _ _ hji] at hj; exact h.new j b S1 e1 hj
  · rw [Below.heap_alloc w _ b (Nat.lt_of_lt_of_le hb h.size)]; exact h.frame b hb hn
  · have hji : j ≠ i := by
      rintro rfl
      rcases hj with hj | hj
      · omega
      · exact hj h0
    rw [upd_other _ _ hji]; exact h.keep j hj hg

theorem Step.adopt {σ0 : Nat → Loc} {H0 : Heap} {w1 : World} (h : Step σ0 H0 w1 σ H w) {i : Nat} (B : Blk) (hi : H0.next ≤ i) (h0 : σ0 i = .none) : Step σ0 H0 w1 σ (H.put i (some B)) w := by
  refine ⟨h.next, h.ext, h.new, h.frame, h.size, fun j hj hg => ?_⟩
  obtain ⟨e1, e2⟩ := h.keep j hj hg
  have hji : j ≠ i := by
    rintro rfl
    rcases hj with hj | hj
    · omega
    · exact hj h0
  exact ⟨e1, by rw [Heap.get_put, if_neg hji]; exact e2⟩

/-- a list of blocks is taken in -/
theorem adopts {σ0 : Nat → Loc} {H0 : Heap} {w1 : World} {base : Nat} (h0 : ∀ i, base ≤ i → H0.next ≤ i ∧ σ0 i = .none) : ∀ (l : List (Nat × Blk)) (H : Heap), HR P N w0 τ σ H w → Step σ0 H0 w1 σ H w →
    (∀ p ∈ l, BlkR P N σ τ w (σ (base + p.1)) p.2) →
    HR P N w0 τ σ (l.foldl (fun H p => H.put (base + p.1) (some p.2)) H) w ∧ Step σ0 H0 w1 σ (l.foldl (fun H p => H.put (base + p.1) (some p.2)) H) w ∧
    (l.foldl (fun H p => H.put (base + p.1) (some p.2)) H).next = H.next ∧
    ∀ j, (∀ p ∈ l, j ≠ base + p.1) → (l.foldl (fun H p => H.put (base + p.1) (some p.2)) H).get j = H.get j
  | [], H, hH, hs, _ => ⟨hH, hs, rfl, fun _ _ => rfl⟩
  | p :: l, H, hH, hs, hl => by
    have h1 := h0 (base + p.1) (Nat.le_add_right _ _)
    obtain ⟨k1, k2, k3, k4⟩ := adopts h0 l (H.put (base + p.1) (some p.2)) (hH.adopt (hl p (by simp))) (hs.adopt p.2 h1.1 h1.2) (fun q hq => hl q (List.mem_cons_of_mem _ hq))
    refine ⟨k1, k2, k3, fun j hj => ?_⟩
    rw [List.foldl_cons, k4 j (fun q hq => hj q (List.mem_cons_of_mem _ hq)), Heap.get_put, if_neg (hj p (by simp))]

/-- the guard, as the machine saw it -/
theorem wanted_of {ops : Array Oper} {o : Oper} {tm : Tr Value} {a : Array Value} {bb : Bool}
    (hT : ∀ j want oj d v, o.guard = some (j, want) → ops[j]? = some oj → oj.dst = some d → tm.get d = some v → VR σ τ v (a.getD d undef)) (h : dwanted ops tm o = some bb) :
    Region.wanted o (yielded ops a) = bb := by
  unfold dwanted at h
  unfold Region.wanted
  cases hg : o.guard with
  | none => rw [hg] at h; simp only [Option.some.injEq] at h; exact h
  | some jw =>
    obtain ⟨j, want⟩ := jw
    rw [hg] at h
    simp only at h ⊢
    cases hd : (ops[j]?).bind (·.dst) with
    | none =>
      rw [hd] at h
      simp only [Option.some.injEq] at h
      subst h
      simp [yielded, hd]
    | some d =>
      rw [hd] at h
      obtain ⟨oj, hoj, hdj⟩ := Option.bind_eq_some_iff.1 hd
      simp only at h
      have hv := hT j want oj d
      cases hq : tm.get d with
      | none => rw [hq] at h; cases h
      | some v =>
        have hvr := hv v hg hoj hdj hq
        rw [hq] at h
        have hin : ∀ u : Value, a.getD d undef = u → u ≠ undef → a[d]? = some u := by
          intro u hu hne
          rw [Array.getD_eq_getD_getElem?] at hu
          cases hx : a[d]? with
          | none => rw [hx] at hu; exact absurd hu.symm hne
          | some z => rw [hx] at hu; simp at hu; rw [hu]
        split at h
        · rename_i x c hx
          cases hx
          simp only [Option.some.injEq] at h
          subst h
          have := hin _ (hvr.flat_eq rfl) (by simp [undef])
          simp [yielded, hd, this]
        · rename_i x c hx
          cases hx
          cases h
          obtain ⟨x', e1, _⟩ := hvr.tuple_inv
          have hy : yielded ops a j = none := by
            unfold yielded
            rw [hd]
            simp only [Option.bind_some]
            rw [Array.getD_eq_getD_getElem?] at e1
            cases hx : a[d]? with
            | none => rfl
            | some z => rw [hx] at e1; simp at e1; rw [e1]
          simp [hy]
        · cases h
end

/-! ## The simulation -/
/-- what the world and the frame are worth when the operations of S have been done, and the machine's run stands at 'done' -/
structure SI (P : Program) (N : Nat) (w0 : World) (τ : Nat → Value) (ops : Array Oper) (b : Array Nat) (base m : Nat) (tm0 tmF : Tr Value) (σ0 : Nat → Loc) (H0 : Heap) (w1 : World)
    (S : Nat → Prop) (done : Nat) (G : Heap) (ds : List Deferred) (σ : Nat → Loc) (a : Act) (w : World) : Prop where
  hH : HR P N w0 τ σ G w
  ta : ∀ t v, (written ops S t → tmF.get t = some v → VR σ τ v (a.tmps.getD t undef)) ∧ (¬ written ops S t → tm0.get t = some v → VR σ τ v (a.tmps.getD t undef))
  dsr : DsR σ τ ds a.defers
  sz : m ≤ a.tmps.size
  ex : ∀ p o B mk, S p → ¬ bit done p → ops[p]? = some o → isAlloc o = true → dwanted ops tmF o = some true → dalloc P o (rho ops b tm0 tmF p) = some (B, mk) → BlkR P N σ τ w (σ (base + p)) B
  non : ∀ p, p < ops.size → ¬ S p → σ (base + p) = .none
  nob : ∀ p, p < ops.size → ¬ bit done p → G.get (base + p) = none
  nx : base + ops.size ≤ G.next
  stp : Step σ0 H0 w1 σ G w

def DrawPost (P : Program) (N : Nat) (w0 : World) (τ : Nat → Value) (m : Nat) (σ0 : Nat → Loc) (H0 : Heap) (w1 : World) (st : St) (Q : Exit → Act → World → Prop) : Prop :=
  ∀ σ a w, HR P N w0 τ σ st.H w → TmR σ τ st.tm a.tmps → DsR σ τ st.ds a.defers → m ≤ a.tmps.size → Step σ0 H0 w1 σ st.H w → Q .normal a w

/-- one effect's law, as the region's needs it -/
def EffLaw (F : Fence) (P : Program) (N : Nat) (w0 : World) (τ : Nat → Value) (ok : Ok) (n : Nat) (x : Ctx) (ops : Array Oper) : Prop :=
  ∀ n', n' < n → ∀ o ρ ds H v ds1 H1, o ∈ ops → dop1 P ok n' x o ρ ds H = some (.val v ds1 H1) →
    ∀ (a : Act) (w : World) (σ : Nat → Loc) (K : Act → World → Prop) (Q : Exit → Act → World → Prop), (∀ y ∈ o.op.operands.toList, VR σ τ (ρ y) (a.eval y)) → HR P N w0 τ σ H w → DsR σ τ ds a.defers → GR P σ →
      (∀ σ' v' w' dfs', VR σ' τ v v' → HR P N w0 τ σ' H1 w' → DsR σ' τ ds1 dfs' → Step σ H w σ' H1 w' → K (({ a with defers := dfs' } : Act).put o.dst v') w') → o.wpIn F 0 P a w K Q

section
variable {P : Program} {N : Nat} {w0 : World} {τ : Nat → Value} {ops : Array Oper} {b : Array Nat} {effs : List Nat} {F : Fence} {ok : Ok} {n : Nat} {x : Ctx} {base m : Nat} {tm0 tmF : Tr Value} {σ0 : Nat → Loc} {H0 : Heap} {w1 : World}

theorem act_put_tmps (a : Act) (d : Option Tmp) (v : Value) (t : Tmp) : ((a.put d v).tmps.getD t undef = if d = some t ∧ t < a.tmps.size then v else a.tmps.getD t undef) := by
  cases d with
  | none => simp [Act.put]
  | some d =>
    simp only [Act.put, Array.getD_eq_getD_getElem?, Array.getElem?_setIfInBounds]
    by_cases h : d = t
    · subst h
      by_cases h2 : d < a.tmps.size
      · simp [h2]
      · simp [h2]
    · simp [h]

theorem act_put_size (a : Act) (d : Option Tmp) (v : Value) : (a.put d v).tmps.size = a.tmps.size := by cases d <;> simp [Act.put]
theorem act_put_defers (a : Act) (d : Option Tmp) (v : Value) : (a.put d v).defers = a.defers := by cases d <;> rfl

/-- the operands, as the run found them -/
theorem SI.opnd {S : Nat → Prop} {done : Nat} {G : Heap} {ds : List Deferred} {σ : Nat → Loc} {a : Act} {w : World} (R : RC ops b effs)
    (h : SI P N w0 τ ops b base m tm0 tmF σ0 H0 w1 S done G ds σ a w) (hS : DS ops b S) (hg : GR P σ) {i : Nat} {o : Oper} (ho : ops[i]? = some o) (hi : ¬ S i) (ha : ∀ j, anc b i j → S j)
    (hok : o.op.operands.toList.all (okOpnd P.globals.size) = true) : ∀ y ∈ o.op.operands.toList, VR σ τ (rho ops b tm0 tmF i y) (a.eval y) := by
  intro y hy
  cases y with
  | tmp t =>
    unfold rho
    simp only
    show VR σ τ _ (a.tmps.getD t undef)
    split
    · rename_i hw
      show VR σ τ ((tmF.get t).getD junk) _
      cases hq : tmF.get t with
      | none => exact .junk _
      | some v => exact (h.ta t v).1 (written_mono ha hw) hq
    · rename_i hw
      show VR σ τ ((tm0.get t).getD junk) _
      cases hq : tm0.get t with
      | none => exact .junk _
      | some v => exact (h.ta t v).2 (R.not_written hS ho hi hy hw) hq
  | const v => exact .flat _ (List.all_eq_true.1 hok _ hy)
  | global g => exact hg.ptr (by simpa [okOpnd, Nat.blt_eq] using List.all_eq_true.1 hok _ hy)
  | func f => exact .flat _ rfl

/-- one more operation is done: its slot -/
theorem SI.slots {S : Nat → Prop} {done : Nat} {G : Heap} {ds : List Deferred} {σ σ' : Nat → Loc} {a a' : Act} {w : World} (R : RC ops b effs)
    (h : SI P N w0 τ ops b base m tm0 tmF σ0 H0 w1 S done G ds σ a w) (he : Ext σ σ') {i : Nat} {o : Oper} (ho : ops[i]? = some o) (hi : ¬ S i) {v' : Value}
    (hd : ∀ d, o.dst = some d → d < m) (hv : ∀ d v, o.dst = some d → tmF.get d = some v → VR σ' τ v v') (ha : a'.tmps = a.tmps) :
    ∀ t v, (written ops (fun j => S j ∨ j = i) t → tmF.get t = some v → VR σ' τ v ((a'.put o.dst v').tmps.getD t undef)) ∧
      (¬ written ops (fun j => S j ∨ j = i) t → tm0.get t = some v → VR σ' τ v ((a'.put o.dst v').tmps.getD t undef)) := by
  intro t v
  rw [act_put_tmps, ha]
  by_cases hdt : o.dst = some t
  · have hlt : t < a.tmps.size := Nat.lt_of_lt_of_le (hd t hdt) h.sz
    rw [if_pos ⟨hdt, hlt⟩]
    exact ⟨fun _ hq => hv t v hdt hq, fun hn => absurd ⟨i, o, .inr rfl, ho, hdt⟩ hn⟩
  · rw [if_neg (fun h => hdt h.1)]
    constructor
    · rintro ⟨p, op, hp, hop, hpd⟩ hq
      rcases hp with hp | rfl
      · exact ((h.ta t v).1 ⟨p, op, hp, hop, hpd⟩ hq).ext he
      · rw [ho] at hop; cases hop; exact absurd hpd hdt
    · intro hn hq
      exact ((h.ta t v).2 (fun hw => hn (written_mono (fun i hi => .inl hi) hw)) hq).ext he

theorem filter_lt {p q : Nat → Bool} : ∀ {l : List Nat} {i : Nat}, (∀ j, q j = true → p j = true) → i ∈ l → p i = true → q i = false → (l.filter q).length < (l.filter p).length
  | a :: l, i, hpq, hm, hp, hq => by
    have hle : (l.filter q).length ≤ (l.filter p).length := by
      rw [← List.countP_eq_length_filter, ← List.countP_eq_length_filter]
      exact List.countP_mono_left fun j _ hj => hpq j hj
    by_cases hai : a = i
    · subst hai
      rw [List.filter_cons_of_pos hp, List.filter_cons_of_neg (by simp [hq]), List.length_cons]; omega
    · have ih := filter_lt hpq ((List.mem_cons.1 hm).resolve_left (fun e => hai e.symm)) hp hq
      by_cases hqa : q a = true
      · rw [List.filter_cons_of_pos hqa, List.filter_cons_of_pos (hpq a hqa), List.length_cons, List.length_cons]; omega
      · rw [List.filter_cons_of_neg hqa]
        by_cases hpa : p a = true
        · rw [List.filter_cons_of_pos hpa, List.length_cons]; omega
        · rw [List.filter_cons_of_neg hpa]; exact ih

def lst (listed : Array Bool) (i : Nat) : Prop := listed.getD i false = true

theorem lst_set {listed : Array Bool} {i j : Nat} (hi : i < listed.size) : lst (listed.setIfInBounds i true) j ↔ lst listed j ∨ j = i := by
  unfold lst
  simp only [Array.getD_eq_getD_getElem?, Array.getElem?_setIfInBounds]
  by_cases h : i = j
  · subst h; simp [hi]
  · simp only [if_neg h]
    constructor
    · exact .inl
    · rintro (h1 | h1)
      · exact h1
      · exact absurd h1.symm h

theorem mem_ready {listed : Array Bool} {i : Nat} (R : RC ops b effs) (hl : listed.size = ops.size) (hS : DS ops b (lst listed)) :
    i ∈ Region.ready .any ops listed ↔ i < ops.size ∧ ¬ lst listed i ∧ ∀ j, anc b i j → lst listed j := by
  unfold Region.ready
  rw [List.mem_filter, List.mem_range]
  constructor
  · rintro ⟨h1, h2⟩
    obtain ⟨o, ho⟩ := some_of_lt h1
    simp only [Bool.and_eq_true, Bool.not_eq_true', ho, Option.map_some, Option.getD_some] at h2
    refine ⟨h1, fun hl' => ?_, fun j hj => ?_⟩
    · unfold lst at hl'
      have h3 := h2.1
      rw [Array.getD_eq_getD_getElem?] at hl' h3
      cases hx : listed[i]? with
      | none => rw [hx] at hl'; cases hl'
      | some v => rw [hx] at hl' h3; simp at hl' h3; rw [hl'] at h3; cases h3
    · obtain ⟨e, he, hb, h3⟩ := (R.edge i o ho j).1 hj
      have h4 := h2.2
      rw [Array.all_eq_true'] at h4
      have h5 := h4 e (Array.mem_toList_iff.1 he)
      rw [hb] at h5
      simp only [Bool.not_true, Bool.false_or] at h5
      rcases h3 with rfl | h3
      · exact h5
      · exact (hS _ h5).2 j h3
  · rintro ⟨h1, h2, h3⟩
    obtain ⟨o, ho⟩ := some_of_lt h1
    refine ⟨h1, ?_⟩
    simp only [Bool.and_eq_true, Bool.not_eq_true', ho, Option.map_some, Option.getD_some]
    constructor
    · unfold lst at h2
      rw [Array.getD_eq_getD_getElem?] at h2 ⊢
      cases hx : listed[i]? with
      | none => rw [Array.getElem?_eq_none_iff] at hx; omega
      | some v => rw [hx] at h2; simpa using h2
    · rw [Array.all_eq_true']
      intro e he
      cases hb : Region.binds .any e with
      | false => rfl
      | true =>
        simp only [Bool.not_true, Bool.false_or]
        exact h3 _ ((R.edge i o ho e.on).2 ⟨e, Array.mem_toList_iff.2 he, hb, .inl rfl⟩)

theorem all_listed {listed : Array Bool} (R : RC ops b effs) (hl : listed.size = ops.size) (hS : DS ops b (lst listed)) (h : Region.ready .any ops listed = []) : ∀ i, i < ops.size → lst listed i := by
  intro i
  induction i using Nat.strongRecOn with
  | _ i ih =>
    intro hi
    by_cases hx : lst listed i
    · exact hx
    · have : i ∈ Region.ready .any ops listed := (mem_ready R hl hS).2 ⟨hi, hx, fun j hj => ih j (R.anc_lt _ _ hj) (by have := R.anc_lt _ _ hj; omega)⟩
      rw [h] at this; cases this
end
end Go.Hb
