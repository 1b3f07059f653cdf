/- The heaps' relation, and how it is kept by loads, stores, new blocks. -/
import Derived.Test.YtgcbbaeokigbdaaDoorHbRel
import Derived.Laws.CopyRow
import Derived.Laws.CopyOwn
namespace Go.Hb
open Go Go.RowKit

/-- temporaries -/
def TmR (σ : Nat → Loc) (τ : Nat → Value) (tm : Tr Value) (a : Array Value) : Prop := ∀ i v, tm.get i = some v → VR σ τ v (a.getD i undef)

/-- what the code names may be named: temporaries below n, globals below g -/
def okOpnd (g : Nat) : Operand → Bool
  | .const v => flat v
  | .global i => Nat.blt i g
  | _ => true

def okOper (g n : Nat) (o : Oper) : Bool :=
  (match o.dst with | some d => Nat.blt d n | none => true) && o.op.operands.toList.all (okOpnd g)

/-- an operation that reads or writes a slot that another one writes stands behind or ahead of it -/
def apartOK (ops : List Oper) (b : Array Nat) : Bool :=
  let ix := ops.zipIdx
  ix.all fun p => match p.1.dst with
    | none => true
    | some d => ix.all fun q => Nat.beq p.2 q.2 ||
        ((match q.1.dst with | some d' => !(Nat.beq d d') | none => true) &&
         (!(q.1.op.operands.toList.any fun x => match x with | .tmp t => Nat.beq t d | _ => false) || (b.getD q.2 0).testBit p.2 || (b.getD p.2 0).testBit q.2))

/-- each effect stands ahead of all later ones; the last two may be stores in no order -/
def chainOK (ops : Array Oper) (b : Array Nat) : List Nat → Bool
  | [] => true
  | e :: r => (match r with
    | [f] => (b.getD f 0).testBit e || (isSt ops e && isSt ops f)
    | r => r.all fun f => (b.getD f 0).testBit e) && chainOK ops b r

def ahead (b : Array Nat) (o : Oper) : Nat := o.after.toList.foldl (fun s e => if Region.binds .any e then s ||| 2 ^ e.on ||| b.getD e.on 0 else s) 0

/-- what a region that draws is asked once and for all -/
def okDraw (ops : Array Oper) : Bool :=
  let b := Region.before ops
  let effs := (List.range ops.size).filter fun i => match ops[i]? with | some o => isEff o | none => false
  Nat.beq b.size ops.size && apartOK ops.toList b && chainOK ops b effs &&
  ops.toList.zipIdx.all fun p => Nat.beq (b.getD p.2 0) (ahead b p.1) && (p.1.after.toList.all fun e => !(Region.binds .any e) || Nat.blt e.on p.2) &&
    (match p.1.guard with | some (j, _) => (b.getD p.2 0).testBit j | none => true)

def okCode (g n : Nat) : Code → Bool
  | .skip | .exit _ | .ret | .label _ => true
  | .region _ ops dr => ops.toList.all (okOper g n) && (!dr || okDraw ops)
  | .seq a b => okCode g n a && okCode g n b
  | .cond c a b => okOpnd g c && okCode g n a && okCode g n b
  | .block _ b => okCode g n b
  | .loop b => okCode g n b
  | .scope b => okCode g n b
  | .rangeFunc f ps a b => okOpnd g f && ps.toList.all (fun t => Nat.blt t n) && okCode g n a && okCode g n b
  | _ => true

def EntR (σ : Nat → Loc) (τ : Nat → Value) (es : List MapEntry) (es' : Array MapEntry) : Prop :=
  es.length = es'.size ∧ ∀ (i : Nat) e e', es[i]? = some e → es'[i]? = some e' → e'.key = e.key ∧ flat e.key = true ∧ e'.born = e.born ∧ VR σ τ e.val e'.val

/-- the cells that are known are a beginning of those that are there -/
def PR (σ : Nat → Loc) (τ : Nat → Value) (cs cur : List Value) : Prop := LR σ τ cs (cur.take cs.length)

inductive BlkR (P : Program) (N : Nat) (σ : Nat → Loc) (τ : Nat → Value) (w : World) : Loc → Blk → Prop
  | ro (b S : Nat) (cs : List Value) (e : TypeId) (cur : Array Value) (fr : Nat × Nat) : b < N → w.heap[b]? = some (.cells cur e fr) → PR σ τ cs cur.toList → BlkR P N σ τ w (.live b S 0) (.ro cs e)
  | row (b S es : Nat) (cs : List Value) (e : TypeId) (cur : Array Value) : N ≤ b → w.heap[b]? = some (.cells cur e (0, 0)) → cur.size = S → es = P.cellsOf e → PR σ τ cs cur.toList → BlkR P N σ τ w (.live b S es) (.row cs e)
  | map (b S es : Nat) (xs : List MapEntry) (clock : Nat) (xs' : Array MapEntry) : N ≤ b → w.heap[b]? = some (.map xs' clock) → EntR σ τ xs xs' → BlkR P N σ τ w (.live b S es) (.map xs clock)
  | siter (b S es : Nat) (s : ByteArray) (pos : Nat) : N ≤ b → w.heap[b]? = some (.stringIter s pos) → BlkR P N σ τ w (.live b S es) (.siter s pos)
  | loop (b S es : Nat) (st : LoopState) (pend : Option Code) (fn : FuncId) (tm : Tr Value) (ps : List Tmp) (as bo : Code) (k m : Nat) (L : Loop) : N ≤ b → w.heap[b]? = some (.loop L) →
      L.state = st → L.pending = pend → L.params.toList = ps → L.assign = as → L.body = bo → TmR σ τ tm L.tmps → m ≤ L.tmps.size → okCode P.globals.size m as = true → okCode P.globals.size m bo = true →
      (∀ t ∈ ps, t < m) → (pend = none ∨ pend = some .ret ∨ ∃ id, pend = some (.exit id)) → BlkR P N σ τ w (.live b S es) (.loop st pend fn tm ps as bo k)
  | dfr (b S es : Nat) : N ≤ b → w.heap[b]? = some (.deferred (some [])) → BlkR P N σ τ w (.live b S es) .dfr

structure HR (P : Program) (N : Nat) (w0 : World) (τ : Nat → Value) (σ : Nat → Loc) (H : Heap) (w : World) : Prop where
  below : Below N w0 w
  size : N ≤ w.heap.size
  fresh : ∀ i, H.next ≤ i → σ i = .none
  blk : ∀ i B, H.get i = some B → BlkR P N σ τ w (σ i) B
  inj : ∀ i j b S es S' es', σ i = .live b S es → σ j = .live b S' es' → i = j
  lt : ∀ i b S es, σ i = .live b S es → b < w.heap.size

structure Step (σ : Nat → Loc) (H : Heap) (w : World) (σ' : Nat → Loc) (H' : Heap) (w' : World) : Prop where
  next : H.next ≤ H'.next
  ext : Ext σ σ'
  new : ∀ i b S es, σ' i = .live b S es → w.heap.size ≤ b ∨ (∃ S' es', σ i = .live b S' es') ∨ ∃ j S' es', H.get j ≠ none ∧ σ j = .live b S' es'
  frame : ∀ b, b < w.heap.size → (∀ i S es, σ i = .live b S es → H.get i = none) → w'.heap[b]? = w.heap[b]?
  size : w.heap.size ≤ w'.heap.size
  keep : ∀ i, (i < H.next ∨ σ i ≠ .none) → H.get i = none → σ' i = σ i ∧ H'.get i = none

theorem Step.refl (σ H w) : Step σ H w σ H w := ⟨Nat.le_refl _, Ext.refl σ, fun i b S es h => .inr (.inl ⟨S, es, h⟩), fun _ _ _ => rfl, Nat.le_refl _, fun _ _ h => ⟨rfl, h⟩⟩
theorem Step.trans {σ H w σ' H' w' σ'' H'' w''} (h : Step σ H w σ' H' w') (k : Step σ' H' w' σ'' H'' w'') : Step σ H w σ'' H'' w'' := by
  have hne : ∀ i b S es, σ i = .live b S es → σ i ≠ .none := fun i b S es h => by rw [h]; simp
  refine ⟨Nat.le_trans h.next k.next, h.ext.trans k.ext, fun i b S es hi => ?_, fun b hb hn => ?_, Nat.le_trans h.size k.size, fun i hi hg => ?_⟩
  · rcases k.new i b S es hi with h1 | ⟨S', es', h1⟩ | ⟨j, S', es', hj, h1⟩
    · exact .inl (Nat.le_trans h.size h1)
    · exact h.new i b S' es' h1
    · rcases h.new j b S' es' h1 with h2 | ⟨S2, es2, h2⟩ | h2
      · exact .inl h2
      · by_cases hg : H.get j = none
        · exact absurd (h.keep j (.inr (hne j _ _ _ h2)) hg).2 hj
        · exact .inr (.inr ⟨j, S2, es2, hg, h2⟩)
      · exact .inr (.inr h2)
  · rw [k.frame b (Nat.lt_of_lt_of_le hb h.size) (fun i S es hi => ?_), h.frame b hb hn]
    rcases h.new i b S es hi with h1 | ⟨S', es', h1⟩ | ⟨j, S', es', hj, h1⟩
    · omega
    · exact (h.keep i (.inr (hne i _ _ _ h1)) (hn i S' es' h1)).2
    · exact absurd (hn j S' es' h1) hj
  · obtain ⟨e1, e2⟩ := h.keep i hi hg
    obtain ⟨e3, e4⟩ := k.keep i (hi.elim (fun h' => .inl (Nat.lt_of_lt_of_le h' h.next)) (fun h' => .inr (by rw [e1]; exact h'))) e2
    exact ⟨e3.trans e1, e4⟩

section
variable {P : Program} {N : Nat} {w0 : World} {τ : Nat → Value} {σ σ' : Nat → Loc} {H : Heap} {w w' : World}

theorem PR.ext (he : Ext σ σ') {cs cur} (h : PR σ τ cs cur) : PR σ' τ cs cur := LR.ext he h
theorem TmR.ext (he : Ext σ σ') {tm a} (h : TmR σ τ tm a) : TmR σ' τ tm a := fun i v hv => (h i v hv).ext he
theorem EntR.ext (he : Ext σ σ') {es es'} (h : EntR σ τ es es') : EntR σ' τ es es' :=
  ⟨h.1, fun i e e' a b => let ⟨x, y, z, u⟩ := h.2 i e e' a b; ⟨x, y, z, u.ext he⟩⟩

theorem BlkR.ext (he : Ext σ σ') {l B} (h : BlkR P N σ τ w l B) : BlkR P N σ' τ w l B := by
  cases h with
  | ro b S cs e cur fr h1 h2 h3 => exact .ro b S cs e cur fr h1 h2 (h3.ext he)
  | row b S es cs e cur h1 h2 h3 h4 h5 => exact .row b S es cs e cur h1 h2 h3 h4 (h5.ext he)
  | map b S es xs clock xs' h1 h2 h3 => exact .map b S es xs clock xs' h1 h2 (h3.ext he)
  | siter b S es s pos h1 h2 => exact .siter b S es s pos h1 h2
  | loop b S es st pend fn tm ps as bo k m L h1 h2 h3 h4 h5 h6 h7 h8 h9 h10 h11 h12 h13 => exact .loop b S es st pend fn tm ps as bo k m L h1 h2 h3 h4 h5 h6 h7 (h8.ext he) h9 h10 h11 h12 h13
  | dfr b S es h1 h2 => exact .dfr b S es h1 h2

theorem BlkR.world {l B} (h : BlkR P N σ τ w l B) (hw : ∀ b S es, l = .live b S es → w'.heap[b]? = w.heap[b]?) : BlkR P N σ τ w' l B := by
  cases h with
  | ro b S cs e cur fr h1 h2 h3 => exact .ro b S cs e cur fr h1 ((hw b S 0 rfl).trans h2) h3
  | row b S es cs e cur h1 h2 h3 h4 h5 => exact .row b S es cs e cur h1 ((hw b S es rfl).trans h2) h3 h4 h5
  | map b S es xs clock xs' h1 h2 h3 => exact .map b S es xs clock xs' h1 ((hw b S es rfl).trans h2) h3
  | siter b S es s pos h1 h2 => exact .siter b S es s pos h1 ((hw b S es rfl).trans h2)
  | loop b S es st pend fn tm ps as bo k m L h1 h2 h3 h4 h5 h6 h7 h8 h9 h10 h11 h12 h13 => exact .loop b S es st pend fn tm ps as bo k m L h1 ((hw b S es rfl).trans h2) h3 h4 h5 h6 h7 h8 h9 h10 h11 h12 h13
  | dfr b S es h1 h2 => exact .dfr b S es h1 ((hw b S es rfl).trans h2)

theorem BlkR.live {l B} (h : BlkR P N σ τ w l B) : ∃ b S es, l = .live b S es := by cases h <;> exact ⟨_, _, _, rfl⟩

theorem HR.get_lt (h : HR P N w0 τ σ H w) {i B} (hi : H.get i = some B) : i < H.next := by
  rcases Nat.lt_or_ge i H.next with h1 | h1
  · exact h1
  · obtain ⟨b, S, es, hl⟩ := (h.blk i B hi).live
    rw [h.fresh i h1] at hl; cases hl

theorem HR.drew (h : HR P N w0 τ σ H w) : HR P N w0 τ σ H w.drew := ⟨h.below.drew, h.size, h.fresh, fun i B hB => (h.blk i B hB).world fun _ _ _ _ => rfl, h.inj, h.lt⟩

def upd (σ : Nat → Loc) (i : Nat) (l : Loc) : Nat → Loc := fun j => if j = i then l else σ j
theorem upd_same (σ i l) : upd σ i l i = l := by simp [upd]
theorem upd_other {i j : Nat} (σ l) (h : j ≠ i) : upd σ i l j = σ j := by simp [upd, h]
theorem HR.ext_new (h : HR P N w0 τ σ H w) (l : Loc) : Ext σ (upd σ H.next l) := by
  intro i
  by_cases hi : i = H.next
  · subst hi; exact .inl (h.fresh _ (Nat.le_refl _))
  · exact .inr (.inl (upd_other σ l hi))

theorem HR.keep_new (h : HR P N w0 τ σ H w) (l : Loc) (B : Option Blk) {i : Nat} (hi : i < H.next ∨ σ i ≠ .none) (hg : H.get i = none) : upd σ H.next l i = σ i ∧ (H.new B).get i = none := by
  have hne : i ≠ H.next := fun e => by
    subst e
    rcases hi with hi | hi
    · omega
    · exact hi (h.fresh _ (Nat.le_refl _))
  exact ⟨upd_other _ _ hne, by rw [Heap.get_new, if_neg hne]; exact hg⟩

/-- a block is written -/
theorem HR.write (h : HR P N w0 τ σ H w) {i : Nat} {B : Blk} {b S es : Nat} (hi : H.get i ≠ none) (hl : σ i = .live b S es) (hb : N ≤ b)
    (hos : w'.os = w.os) (ht : w'.tape = w.tape) (ho : w'.output = w.output) (hs : w'.heap.size = w.heap.size) (hw : ∀ k, k ≠ b → w'.heap[k]? = w.heap[k]?)
    (hB : BlkR P N σ τ w' (.live b S es) B) : HR P N w0 τ σ (H.put i (some B)) w' ∧ Step σ H w σ (H.put i (some B)) w' := by
  refine ⟨⟨h.below.trans ⟨hos, ht, ho, by omega, fun k hk => hw k (by omega)⟩, by rw [hs]; exact h.size, h.fresh, fun j C hj => ?_, h.inj, fun j c S es hj => by rw [hs]; exact h.lt j c S es hj⟩,
    ⟨Nat.le_refl _, Ext.refl σ, fun j c S es hj => .inr (.inl ⟨S, es, hj⟩), fun k hk hn => hw k (fun e => hi (hn i S es (e ▸ hl))), by omega, fun j _ hj => ⟨rfl, ?_⟩⟩⟩
  · rw [Heap.get_put] at hj
    by_cases hji : j = i
    · rw [if_pos hji] at hj
      cases hj
      rw [hji, hl]; exact hB
    · rw [if_neg hji] at hj
      exact (h.blk j C hj).world fun c S' es' hc => hw c (fun e => hji (h.inj j i c S' es' S es hc (e ▸ hl)))
  · have hji : j ≠ i := fun e => hi (e ▸ hj)
    rw [Heap.get_put, if_neg hji]; exact hj

/-- a new block -/
theorem HR.alloc (h : HR P N w0 τ σ H w) {B : Blk} {S es : Nat} (hos : w'.os = w.os) (ht : w'.tape = w.tape) (ho : w'.output = w.output)
    (hs : w.heap.size < w'.heap.size) (hw : ∀ k, k < w.heap.size → w'.heap[k]? = w.heap[k]?)
    (hB : BlkR P N (upd σ H.next (.live w.heap.size S es)) τ w' (.live w.heap.size S es) B) :
    HR P N w0 τ (upd σ H.next (.live w.heap.size S es)) (H.new (some B)) w' ∧ Step σ H w (upd σ H.next (.live w.heap.size S es)) (H.new (some B)) w' := by
  have he := h.ext_new (.live w.heap.size S es)
  have hlt := h.lt
  refine ⟨⟨h.below.trans ⟨hos, ht, ho, by omega, fun k hk => hw k (Nat.lt_of_lt_of_le hk h.size)⟩, by have := h.size; omega, fun i hi => ?_, fun j C hj => ?_, fun i j b S1 es1 S2 es2 hi hj => ?_, fun i b S1 es1 hi => ?_⟩,
    ⟨Nat.le_succ _, he, fun i b S1 es1 hi => ?_, fun k hk _ => hw k hk, by omega, fun i hi hg => h.keep_new _ _ hi hg⟩⟩
  · have hi' : H.next + 1 ≤ i := hi
    rw [upd_other _ _ (by omega)]; exact h.fresh i (by omega)
  · rw [Heap.get_new] at hj
    by_cases hjn : j = H.next
    · rw [if_pos hjn] at hj
      cases hj
      rw [hjn, upd_same]; exact hB
    · rw [if_neg hjn] at hj
      rw [upd_other _ _ hjn]
      exact ((h.blk j C hj).ext he).world fun c S' es' hc => hw c (hlt j c S' es' hc)
  · by_cases hi1 : i = H.next
    · by_cases hj1 : j = H.next
      · rw [hi1, hj1]
      · rw [hi1, upd_same] at hi; cases hi
        rw [upd_other _ _ hj1] at hj
        have := hlt j _ _ _ hj; omega
    · rw [upd_other _ _ hi1] at hi
      by_cases hj1 : j = H.next
      · rw [hj1, upd_same] at hj; cases hj
        have := hlt i _ _ _ hi; omega
      · rw [upd_other _ _ hj1] at hj
        exact h.inj i j b S1 es1 S2 es2 hi hj
  · by_cases hi1 : i = H.next
    · rw [hi1, upd_same] at hi; cases hi; omega
    · rw [upd_other _ _ hi1] at hi; have := hlt i b S1 es1 hi; omega
  · by_cases hi1 : i = H.next
    · rw [hi1, upd_same] at hi; cases hi; exact .inl (Nat.le_refl _)
    · rw [upd_other _ _ hi1] at hi; exact .inr (.inl ⟨S1, es1, hi⟩)

/-- a number of which nothing is known -/
theorem HR.loose (h : HR P N w0 τ σ H w) : HR P N w0 τ (upd σ H.next .dead) (H.new none) w ∧ Step σ H w (upd σ H.next .dead) (H.new none) w := by
  have he := h.ext_new .dead
  refine ⟨⟨h.below, h.size, fun i hi => ?_, fun j C hj => ?_, fun i j b S1 es1 S2 es2 hi hj => ?_, fun i b S1 es1 hi => ?_⟩,
    ⟨Nat.le_succ _, he, fun i b S1 es1 hi => ?_, fun k hk _ => rfl, Nat.le_refl _, fun i hi hg => h.keep_new _ _ hi hg⟩⟩
  · have hi' : H.next + 1 ≤ i := hi
    rw [upd_other _ _ (by omega)]; exact h.fresh i (by omega)
  · rw [Heap.get_new] at hj
    by_cases hjn : j = H.next
    · rw [if_pos hjn] at hj; cases hj
    · rw [if_neg hjn] at hj
      rw [upd_other _ _ hjn]
      exact (h.blk j C hj).ext he
  · by_cases hi1 : i = H.next
    · rw [hi1, upd_same] at hi; cases hi
    · by_cases hj1 : j = H.next
      · rw [hj1, upd_same] at hj; cases hj
      · rw [upd_other _ _ hi1] at hi; rw [upd_other _ _ hj1] at hj
        exact h.inj i j b S1 es1 S2 es2 hi hj
  · by_cases hi1 : i = H.next
    · rw [hi1, upd_same] at hi; cases hi
    · rw [upd_other _ _ hi1] at hi; exact h.lt i b S1 es1 hi
  · by_cases hi1 : i = H.next
    · rw [hi1, upd_same] at hi; cases hi
    · rw [upd_other _ _ hi1] at hi; exact .inr (.inl ⟨S1, es1, hi⟩)

/-- a block is forgotten -/
theorem HR.kill (h : HR P N w0 τ σ H w) (i : Nat) (hi : i < H.next) (hne : σ i ≠ .none) (hgi : H.get i ≠ none) : HR P N w0 τ (upd σ i .dead) (H.put i none) w ∧ Step σ H w (upd σ i .dead) (H.put i none) w := by
  have he : Ext σ (upd σ i .dead) := fun j => by
    by_cases hj : j = i
    · rw [hj]; exact .inr (.inr ⟨hne, upd_same _ _ _⟩)
    · exact .inr (.inl (upd_other _ _ hj))
  have hb : ∀ j b S es, upd σ i .dead j = .live b S es → σ j = .live b S es := fun j b S es hj => by
    by_cases hji : j = i
    · rw [hji, upd_same] at hj; cases hj
    · rwa [upd_other _ _ hji] at hj
  refine ⟨⟨h.below, h.size, fun j hj => ?_, fun j C hj => ?_, fun j k b S1 es1 S2 es2 hj hk => h.inj j k b S1 es1 S2 es2 (hb _ _ _ _ hj) (hb _ _ _ _ hk), fun j b S1 es1 hj => h.lt j b S1 es1 (hb _ _ _ _ hj)⟩,
    ⟨Nat.le_refl _, he, fun j b S1 es1 hj => .inr (.inl ⟨S1, es1, hb _ _ _ _ hj⟩), fun k hk _ => rfl, Nat.le_refl _, fun j _ hg => ?_⟩⟩
  · have hj' : H.next ≤ j := hj
    rw [upd_other _ _ (by omega)]; exact h.fresh j hj'
  · rw [Heap.get_put] at hj
    by_cases hji : j = i
    · rw [if_pos hji] at hj; cases hj
    · rw [if_neg hji] at hj
      rw [upd_other _ _ hji]
      exact (h.blk j C hj).ext he
  · have hji : j ≠ i := fun e => hgi (e ▸ hg)
    exact ⟨upd_other _ _ hji, by rw [Heap.get_put, if_neg hji]; exact hg⟩

theorem add0 (b o j : Nat) : (⟨b, o, none⟩ : Addr).add j = ⟨b, o + j, none⟩ := by
  unfold Addr.add
  split
  · rename_i h; subst h; rfl
  · rfl

/-! ## Cells -/
theorem HR.cells (h : HR P N w0 τ σ H w) {i : Nat} {cs : List Value} (hc : H.cells i = some cs) :
    ∃ b S es cur e fr, σ i = .live b S es ∧ w.heap[b]? = some (.cells cur e fr) ∧ PR σ τ cs cur.toList := by
  unfold Heap.cells at hc
  cases hg : H.get i with
  | none => rw [hg] at hc; cases hc
  | some B =>
    rw [hg] at hc
    have hB := h.blk i B hg
    cases B with
    | ro cs' e =>
      cases hc
      generalize hs : σ i = l at hB
      cases hB with
      | ro b S _ _ cur fr h1 h2 h3 => exact ⟨b, S, 0, cur, e, fr, rfl, h2, h3⟩
    | row cs' e =>
      cases hc
      generalize hs : σ i = l at hB
      cases hB with
      | row b S es _ _ cur h1 h2 h3 h4 h5 => exact ⟨b, S, es, cur, e, (0, 0), rfl, h2, h5⟩
    | _ => cases hc

theorem HR.load (h : HR P N w0 τ σ H w) {a a' : Addr} {n : Nat} {l : List Value} (hl : H.load a n = some l) (ha : AR σ a a') :
    ∃ l', l'.length = n ∧ LR σ τ l l' ∧ ∀ j v, l'[j]? = some v → w.cell? (a'.add j) = some v := by
  unfold Heap.load at hl
  cases hsp : a.spot with
  | some s => rw [hsp] at hl; cases hl
  | none =>
    cases hc : H.cells a.block with
    | none => rw [hsp, hc] at hl; cases hl
    | some cs =>
      rw [hsp, hc] at hl
      simp only at hl
      split at hl
      · rename_i hn
        rw [Nat.beq_eq] at hn
        cases hl
        obtain ⟨b, S, es, cur, e, fr, hσ, hb, hp⟩ := h.cells hc
        unfold AR at ha
        rw [hσ] at ha
        obtain ⟨_, rfl⟩ := ha
        refine ⟨((cur.toList.take cs.length).drop a.off).take n, ?_, (LR.take n (LR.drop a.off hp)), fun j v hv => ?_⟩
        · rw [← (LR.take n (LR.drop a.off hp)).1]; exact hn
        · rw [add0, cell_of_row w b (a.off + j) cur e fr hb]
          rw [List.getElem?_take] at hv
          split at hv
          · rw [List.getElem?_drop, List.getElem?_take] at hv
            split at hv
            · simpa using hv
            · cases hv
          · cases hv
      · cases hl

theorem splice_eq : ∀ (cs : List Value) (o : Nat) (vs : List Value), o ≤ cs.length → splice cs o vs = cs.take o ++ vs ++ cs.drop (o + vs.length)
  | cs, 0, vs, _ => by simp [splice]
  | [], o + 1, vs, h => by simp at h
  | c :: cs, o + 1, vs, h => by
    rw [splice, splice_eq cs o vs (by simpa using h)]
    simp [show o + 1 + vs.length = (o + vs.length) + 1 from by omega]

theorem PR.splice {cs cur vs vs' : List Value} {o : Nat} (h : PR σ τ cs cur) (hv : LR σ τ vs vs') (ho : o + vs.length ≤ cs.length) (hlen : cs.length ≤ cur.length) :
    PR σ τ (splice cs o vs) (cur.take o ++ vs' ++ cur.drop (o + vs'.length)) := by
  rw [splice_eq cs o vs (by omega)]
  unfold PR
  have e1 : (cs.take o ++ vs ++ cs.drop (o + vs.length)).length = cs.length := by simp; omega
  rw [e1]
  have e2 : (cur.take o ++ vs' ++ cur.drop (o + vs'.length)).take cs.length = (cur.take cs.length).take o ++ vs' ++ (cur.take cs.length).drop (o + vs'.length) := by
    have hl := hv.1
    have h1 : (cur.take o ++ vs').length = o + vs'.length := by rw [List.length_append, List.length_take]; omega
    rw [List.take_append, List.take_of_length_le (by omega), h1, List.take_take, Nat.min_eq_left (by omega), List.drop_take]
  rw [e2]
  refine LR.append (LR.append (LR.take o h) hv) ?_
  rw [← hv.1]
  exact LR.drop _ h

theorem PR.len {cs cur : List Value} (h : PR σ τ cs cur) : cs.length ≤ cur.length := by
  have := h.1
  rw [List.length_take] at this
  omega

theorem HR.store (h : HR P N w0 τ σ H w) (hτ : ∀ j, (τ j).oneCell' = true) {a a' : Addr} {vs vs' : List Value} {H' : Heap} (hs : H.store a vs = some H') (ha : AR σ a a') (hv : LR σ τ vs vs') :
    ∃ w', (storeCells a' vs').run P w = .ok () w' ∧ HR P N w0 τ σ H' w' ∧ Step σ H w σ H' w' := by
  unfold Heap.store at hs
  cases hsp : a.spot with
  | some s => rw [hsp] at hs; cases hs
  | none =>
    cases hg : H.get a.block with
    | none => rw [hsp, hg] at hs; cases hs
    | some B =>
      rw [hsp, hg] at hs
      cases B with
      | row cs e =>
        simp only at hs
        split at hs
        · rename_i hc
          obtain ⟨hfit, hone⟩ := hc
          cases hs
          have hB := h.blk _ _ hg
          have hlt := h.get_lt hg
          generalize hσ : σ a.block = l at hB
          cases hB with
          | row b S es _ _ cur h1 h2 h3 h4 h5 =>
            unfold AR at ha
            rw [hσ] at ha
            obtain ⟨_, rfl⟩ := ha
            have hcl := h5.len
            have hrun := run_storeCells_at P b a.off e vs' 0 cur w h2 (by rw [← hv.1]; simp at hcl; omega) (LR.one hτ hv hone)
            simp only [Nat.add_zero] at hrun
            refine ⟨_, hrun, ?_⟩
            have hsz : (cur.toList.take a.off ++ vs' ++ cur.toList.drop (a.off + vs'.length)).length = cur.size := by
              have := hv.1; simp at hcl; simp; omega
            refine h.write (by rw [hg]; simp) hσ h1 rfl rfl rfl (by simp) (fun k hk => setRow_other w b k _ hk) (.row b S es _ e _ h1 (setRow_heap w b cur _ e (0, 0) h2) (by simpa [h3] using hsz) h4 ?_)
            exact PR.splice h5 hv hfit (by simpa using hcl)
        · cases hs
      | _ => cases hs
end
end Go.Hb
