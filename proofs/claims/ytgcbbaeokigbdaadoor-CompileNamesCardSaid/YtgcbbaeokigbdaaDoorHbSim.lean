/- The walk: one equation an operation, in a form in which simp computes. -/
import Derived.Test.YtgcbbaeokigbdaaDoorHbEvD
namespace Go.Hb
open Go Go.RowKit

section
variable (P : Program) (ok : Ok) (x : Ctx) (ops : Array Oper)

/-- on with an operation's outcome -/
def LK (d : Option Tmp) (tm : Tr Value) (ds : List Deferred) (H : Heap) (K : Tr Value → List Deferred → Heap → Prop) : Option Dr → Prop
  | some (.val v H') => K (putD tm d v) ds H'
  | some (.call f args) => EvF P ok f args H fun v H' => K (putD tm d v) ds H'
  | some (.yield l args) => EvR P ok l args H fun v H' => K (putD tm d v) ds H'
  | some (.dfr dd) => x.round = none ∧ K (putD tm d undef) (dd :: ds) H
  | _ => False

/-- on by what a guard says -/
def GK (d : Option Tmp) (tm : Tr Value) (K L : Prop) (want : Bool) : Option Value → Prop
  | some (.bool b) => if b = want then K else L
  | some (.tuple _) => L
  | _ => False

def guardOf (ops : Array Oper) (tm : Tr Value) (j : Nat) : Option Value :=
  match ops.toList[j]? with
  | some o => match o.dst with
    | some d => tm.get d
    | none => some (.tuple #[])
  | none => some (.tuple #[])

def EL : List Oper → Tr Value → List Deferred → Heap → (Tr Value → List Deferred → Heap → Prop) → Prop
  | [], tm, ds, H, K => K tm ds H
  | o :: os, tm, ds, H, K => match o.guard with
    | none => LK P ok x o.dst tm ds H (fun tm ds H => EL os tm ds H K) (dop P o (ev tm) H)
    | some (j, w) => GK o.dst tm (LK P ok x o.dst tm ds H (fun tm ds H => EL os tm ds H K) (dop P o (ev tm) H)) (EL os (putD tm o.dst undef) ds H K) w (guardOf ops tm j)
end

section
variable {P : Program} {ok : Ok} {x : Ctx} {ops : Array Oper}

theorem wanted_some {tm : Tr Value} {o : Oper} {j : Nat} {w : Bool} (hg : o.guard = some (j, w)) :
    (∀ b, guardOf ops tm j = some (.bool b) → dwanted ops tm o = some (b == w)) ∧ (∀ l, guardOf ops tm j = some (.tuple l) → dwanted ops tm o = some false) := by
  unfold guardOf dwanted
  rw [hg]
  simp only [Array.getElem?_toList]
  cases ops[j]? with
  | none => simp
  | some oj =>
    simp only [Option.bind_some]
    cases oj.dst with
    | none => simp
    | some d =>
      simp only
      constructor
      · intro b h; rw [h]
      · intro l h; rw [h]

theorem Ev1.of_LK {o : Oper} {d : Option Tmp} {tm : Tr Value} {ds : List Deferred} {H : Heap} {K : Tr Value → List Deferred → Heap → Prop} (h : LK P ok x d tm ds H K (dop P o (ev tm) H)) :
    Ev1 P ok x o (ev tm) ds H fun v ds H => K (putD tm d v) ds H := by
  unfold LK at h
  split at h
  · rename_i v H' hd; exact Ev1.val hd h
  · rename_i f args hd; exact Ev1.call hd h
  · rename_i l args hd; exact Ev1.yield hd h
  · rename_i dd hd
    exact Upon.now (r := .val undef (dd :: ds) H) (fun n => by rw [dop1, hd, h.1]) ⟨undef, dd :: ds, H, rfl, h.2⟩
  · exact h.elim

theorem EvL.of_EL {K : Tr Value → List Deferred → Heap → Prop} : ∀ (os : List Oper) (tm : Tr Value) (ds : List Deferred) (H : Heap), EL P ok x ops os tm ds H K → EvL P ok x ops os ⟨tm, ds, H⟩ fun st => K st.tm st.ds st.H
  | [], tm, ds, H, h => h
  | o :: os, tm, ds, H, h => by
    unfold EL at h
    split at h
    · rename_i hg
      exact .inr ⟨wanted_none hg, (Ev1.of_LK h).mono fun v ds H h => EvL.of_EL os _ _ _ h⟩
    · rename_i j w hg
      obtain ⟨g1, g2⟩ := wanted_some (ops := ops) (tm := tm) hg
      unfold GK at h
      split at h
      · rename_i b hb
        have := g1 b hb
        by_cases hbw : b = w
        · rw [if_pos hbw] at h
          refine .inr ⟨by rw [this, hbw]; simp, (Ev1.of_LK h).mono fun v ds H h => EvL.of_EL os _ _ _ h⟩
        · rw [if_neg hbw] at h
          refine .inl ⟨by rw [this]; simp [hbw], EvL.of_EL os _ _ _ h⟩
      · rename_i l hl
        exact .inl ⟨g2 l hl, EvL.of_EL os _ _ _ h⟩
      · exact h.elim

/-- a region in the text's order -/
theorem EvC.reg {id : Nat} {ops : Array Oper} {tm : Tr Value} {ds : List Deferred} {H : Heap} {Q : Ex → St → Prop} (h : EL P ok x ops ops.toList tm ds H fun tm ds H => Q .normal ⟨tm, ds, H⟩) : EvC P ok x (.region id ops false) ⟨tm, ds, H⟩ Q :=
  EvC.ops (EvL.of_EL (K := fun tm ds H => Q .normal ⟨tm, ds, H⟩) _ _ _ _ h)

/-! ## Stages of a region that draws -/
section
variable (P ok x ops) (base : Nat)

def NK (k : Nat) (o : Oper) (tm : Tr Value) (gs : List Heap) (K : Tr Value → Prop) (d : Option Tmp) (nx : Nat) : Option Dr → Prop
  | some (.val v G') => (isRead o = false ∨ (G'.next = nx ∧ sameOn P o (ev tm) v (gs.take (gs.length - k)) = true)) ∧ K (putD tm d v)
  | _ => False

def AK (i : Nat) (tm : Tr Value) (H : Heap) (K : Tr Value → Heap → Prop) (d : Option Tmp) : Option (Blk × (Nat → Value)) → Prop
  | some (B, mk) => K (putD tm d (mk (base + i))) (H.put (base + i) (some B))
  | none => False

def EN1 (G : Heap) (gs : List Heap) (i k : Nat) (tm : Tr Value) (H : Heap) (K : Tr Value → Heap → Prop) : Option Oper → Prop
  | none => False
  | some o =>
    let go : Prop := match isAlloc o with
      | true => AK base i tm H K o.dst (dalloc P o (ev tm))
      | false => NK P k o tm gs (fun tm => K tm H) o.dst G.next (dop P o (ev tm) G)
    match o.guard with
    | none => go
    | some (j, w) => GK o.dst tm go (K (putD tm o.dst undef) H) w (guardOf ops tm j)

def EN (G : Heap) (gs : List Heap) : List (Nat × Nat) → Tr Value → Heap → (Tr Value → Heap → Prop) → Prop
  | [], tm, H, K => K tm H
  | (i, k) :: L, tm, H, K => EN1 P ops base G gs i k tm H (fun tm H => EN G gs L tm H K) ops.toList[i]?

def ES1 (tm : Tr Value) (ds : List Deferred) (H : Heap) (K : Tr Value → List Deferred → Heap → Prop) : Option Oper → Prop
  | none => False
  | some o => match o.guard with
    | none => LK P ok x o.dst tm ds H K (dop P o (ev tm) H)
    | some (j, w) => GK o.dst tm (LK P ok x o.dst tm ds H K (dop P o (ev tm) H)) (K (putD tm o.dst undef) ds H) w (guardOf ops tm j)

def ES : List (List (Nat × Nat) × Option Nat) → Heap → List Heap → Tr Value → List Deferred → (Tr Value → List Deferred → Heap → Prop) → Prop
  | [], _, _, _, _, _ => False
  | (L, none) :: _, G, gs, tm, ds, K => EN P ops base G gs L tm G fun tm H => K tm ds H
  | (L, some e) :: S, G, gs, tm, ds, K => EN P ops base G gs L tm G fun tm H => ES1 P ok x ops tm ds H (fun tm ds H => ES S H (G :: gs) tm ds K) ops.toList[e]?
end

theorem EvN.mono {base : Nat} {hs : List Heap} {K K' : Tr Value → Heap → Prop} (hk : ∀ tm H, K tm H → K' tm H) : ∀ (L : List (Nat × Nat)) (tm : Tr Value) (H : Heap), EvN P ops base hs L tm H K → EvN P ops base hs L tm H K'
  | [], tm, H, h => hk _ _ h
  | (i, k) :: L, tm, H, h => by
    obtain ⟨o, ho, h⟩ := h
    refine ⟨o, ho, ?_⟩
    rcases h with ⟨hw, h⟩ | ⟨hw, ha, B, mk, hd, h⟩ | ⟨hw, ha, v, G, gs, G', rfl, hd, hr, h⟩
    · exact .inl ⟨hw, EvN.mono hk L _ _ h⟩
    · exact .inr (.inl ⟨hw, ha, B, mk, hd, EvN.mono hk L _ _ h⟩)
    · exact .inr (.inr ⟨hw, ha, v, G, gs, G', rfl, hd, hr, EvN.mono hk L _ _ h⟩)

theorem EvN.of_EN {base : Nat} {G : Heap} {gs : List Heap} {K : Tr Value → Heap → Prop} : ∀ (L : List (Nat × Nat)) (tm : Tr Value) (H : Heap), EN P ops base G gs L tm H K → EvN P ops base (G :: gs) L tm H K
  | [], tm, H, h => h
  | (i, k) :: L, tm, H, h => by
    unfold EN EN1 at h
    split at h
    · exact h.elim
    · rename_i o ho
      refine ⟨o, ho, ?_⟩
      have go : dwanted ops tm o = some true → (match isAlloc o with
          | true => AK base i tm H (fun tm H => EN P ops base G gs L tm H K) o.dst (dalloc P o (ev tm))
          | false => NK P k o tm gs (fun tm => EN P ops base G gs L tm H K) o.dst G.next (dop P o (ev tm) G)) →
          ((dwanted ops tm o = some true ∧ isAlloc o = true ∧ ∃ B mk, dalloc P o (ev tm) = some (B, mk) ∧ EvN P ops base (G :: gs) L (putD tm o.dst (mk (base + i))) (H.put (base + i) (some B)) K) ∨
           (dwanted ops tm o = some true ∧ isAlloc o = false ∧ ∃ v G1 gs1 G', G :: gs = G1 :: gs1 ∧ dop P o (ev tm) G1 = some (.val v G') ∧
             (isRead o = false ∨ (G'.next = G1.next ∧ sameOn P o (ev tm) v (gs1.take (gs1.length - k)) = true)) ∧ EvN P ops base (G :: gs) L (putD tm o.dst v) H K)) := fun hw h => by
        cases ha : isAlloc o with
        | true =>
          rw [ha] at h
          simp only at h
          unfold AK at h
          split at h
          · rename_i B mk hd
            exact .inl ⟨hw, rfl, B, mk, hd, EvN.of_EN L _ _ h⟩
          · exact h.elim
        | false =>
          rw [ha] at h
          simp only at h
          unfold NK at h
          split at h
          · rename_i v G' hd
            exact .inr ⟨hw, rfl, v, G, gs, G', rfl, hd, h.1, EvN.of_EN L _ _ h.2⟩
          · exact h.elim
      simp only at h
      split at h
      · rename_i hg
        exact .inr (go (wanted_none hg) h)
      · rename_i j w hg
        obtain ⟨g1, g2⟩ := wanted_some (ops := ops) (tm := tm) hg
        unfold GK at h
        split at h
        · rename_i b hb
          have hw := g1 b hb
          by_cases hbw : b = w
          · rw [if_pos hbw] at h
            exact .inr (go (by rw [hw, hbw]; simp) h)
          · rw [if_neg hbw] at h
            refine .inl ⟨by rw [hw]; simp [hbw], EvN.of_EN L _ _ h⟩
        · rename_i l hl
          exact .inl ⟨g2 l hl, EvN.of_EN L _ _ h⟩
        · exact h.elim

theorem EvS.of_ES {base : Nat} {K : Tr Value → List Deferred → Heap → Prop} : ∀ (S : List (List (Nat × Nat) × Option Nat)) (G : Heap) (gs : List Heap) (tm : Tr Value) (ds : List Deferred), ES P ok x ops base S G gs tm ds K → EvS P ok x ops base S (G :: gs) tm ds fun st => K st.tm st.ds st.H
  | [], _, _, _, _, h => h
  | (L, none) :: S, G, gs, tm, ds, h => ⟨G, gs, rfl, EvN.of_EN L _ _ h⟩
  | (L, some e) :: S, G, gs, tm, ds, h => by
    unfold ES at h
    cases ho : ops.toList[e]? with
    | none =>
      rw [ho] at h
      have hno : ∀ (L : List (Nat × Nat)) tm H, EN P ops base G gs L tm H (fun _ _ => False) → False := by
        intro L
        induction L with
        | nil => intro tm H h; exact h
        | cons p L ih =>
          intro tm H h
          obtain ⟨i, k⟩ := p
          have h2 := EvN.of_EN _ _ _ h
          obtain ⟨o, _, h3⟩ := h2
          unfold EN EN1 at h
          split at h
          · exact h
          · rename_i o' ho'
            simp only at h
            have key : ∀ d, (match isAlloc o' with
                | true => AK base i tm H (fun tm H => EN P ops base G gs L tm H fun _ _ => False) d (dalloc P o' (ev tm))
                | false => NK P k o' tm gs (fun tm => EN P ops base G gs L tm H fun _ _ => False) d G.next (dop P o' (ev tm) G)) → False := by
              intro d hh
              split at hh
              · unfold AK at hh
                split at hh
                · exact ih _ _ hh
                · exact hh
              · unfold NK at hh
                split at hh
                · exact ih _ _ hh.2
                · exact hh
            split at h
            · exact key _ h
            · unfold GK at h
              split at h
              · split at h
                · exact key _ h
                · exact ih _ _ h
              · exact ih _ _ h
              · exact h
      exact (hno L tm G (by simpa [ES1] using h)).elim
    | some o =>
      rw [ho] at h
      refine ⟨G, gs, o, rfl, ho, EvN.mono (fun tm1 H1 h => ?_) _ _ _ (EvN.of_EN L _ _ h)⟩
      unfold ES1 at h
      simp only at h
      split at h
      · rename_i hg
        exact .inr ⟨wanted_none hg, (Ev1.of_LK h).mono fun v ds H h => EvS.of_ES S _ _ _ _ h⟩
      · rename_i j w hg
        obtain ⟨g1, g2⟩ := wanted_some (ops := ops) (tm := tm1) hg
        unfold GK at h
        split at h
        · rename_i b hb
          have hw := g1 b hb
          by_cases hbw : b = w
          · rw [if_pos hbw] at h
            exact .inr ⟨by rw [hw, hbw]; simp, (Ev1.of_LK h).mono fun v ds H h => EvS.of_ES S _ _ _ _ h⟩
          · rw [if_neg hbw] at h
            exact .inl ⟨by rw [hw]; simp [hbw], EvS.of_ES S _ _ _ _ h⟩
        · rename_i l hl
          exact .inl ⟨g2 l hl, EvS.of_ES S _ _ _ _ h⟩
        · exact h.elim

/-- a region that draws -/
theorem EvC.drw {id : Nat} {ops : Array Oper} {tm : Tr Value} {ds : List Deferred} {H : Heap} {Q : Ex → St → Prop} (S : List (List (Nat × Nat) × Option Nat)) (hS : sched ops = S)
    (h : ES P ok x ops H.next S ⟨H.next + ops.size, H.t⟩ [] tm ds fun tm ds H => Q .normal ⟨tm, ds, H⟩) : EvC P ok x (.region id ops true) ⟨tm, ds, H⟩ Q :=
  EvC.draw hS (EvS.of_ES (K := fun tm ds H => Q .normal ⟨tm, ds, H⟩) _ _ _ _ _ h)
end
end Go.Hb
