import Derived.Test.YtopekindmbjeoaaDoorM2
import Derived.IntWalk
import Derived.BigFrame
import Derived.Lib.ValidLaws
import Derived.DataReads
import Derived.Test.YtopekindmbjeoaaDoorProg
import Derived.KernelRfl
import Derived.WalkKit
/- Lemmas on the program's own code, towards the laws of this folder, part 3. Conditions: as each lemma says. -/
section
namespace Go.Hb
open Go Go.RowKit
def schedGo (n : Nat) (b : Array Nat) (effs : List Nat) : List Nat → Nat → List (List Nat × Option Nat)
  | [], done => [((List.range n).filter fun i => !done.testBit i && !effs.contains i, none)]
  | e :: es, done => (pending (List.range n) effs (b.getD e 0) done, some e) :: schedGo n b effs es (done ||| b.getD e 0 ||| 2 ^ e)
def effsOf (ops : Array Oper) : List Nat := (List.range ops.size).filter fun i => match ops[i]? with | some o => isEff o | none => false
def noTwin (b : Array Nat) : List Nat → Bool
  | [] => true
  | e :: es => (twin b (e :: es)).isNone && noTwin b es
def sched (ops : Array Oper) : List (List (Nat × Nat) × Option Nat) :=
  if noTwin (Region.before ops) (effsOf ops) = false then [] else (schedGo ops.size (Region.before ops) (effsOf ops) (effsOf ops) 0).map fun p => (p.1.map fun i => (i, effsIn (effsOf ops) ((Region.before ops).getD i 0)), p.2)
section
variable (P : Program) (ok : Ok) (x : Ctx) (ops : Array Oper) (base : Nat)
def EvN (hs : List Heap) : List (Nat × Nat) → Tr Value → Heap → (Tr Value → Heap → Prop) → Prop
  | [], tm, H, K => K tm H
  | (i, k) :: L, tm, H, K => ∃ o, ops.toList[i]? = some o ∧
    ((dwanted ops tm o = some false ∧ EvN hs L (putD tm o.dst undef) H K) ∨
     (dwanted ops tm o = some true ∧ isAlloc o = true ∧ ∃ B mk, dalloc P o (ev tm) = some (B, mk) ∧ EvN hs L (putD tm o.dst (mk (base + i))) (H.put (base + i) (some B)) K) ∨
     (dwanted ops tm o = some true ∧ isAlloc o = false ∧ ∃ v G gs G', hs = G :: gs ∧ dop P o (ev tm) G = some (.val v G') ∧
       (isRead o = false ∨ (G'.next = G.next ∧ sameOn P o (ev tm) v (gs.take (gs.length - k)) = true)) ∧ EvN hs L (putD tm o.dst v) H K))
def EvS : List (List (Nat × Nat) × Option Nat) → List Heap → Tr Value → List Deferred → (St → Prop) → Prop
  | [], _, _, _, _ => False
  | (L, none) :: _, hs, tm, ds, K => ∃ G gs, hs = G :: gs ∧ EvN P ops base hs L tm G fun tm1 H1 => K ⟨tm1, ds, H1⟩
  | (L, some e) :: S, hs, tm, ds, K => ∃ G gs o, hs = G :: gs ∧ ops.toList[e]? = some o ∧ EvN P ops base hs L tm G fun tm1 H1 =>
    (dwanted ops tm1 o = some false ∧ EvS S (H1 :: hs) (putD tm1 o.dst undef) ds K) ∨
    (dwanted ops tm1 o = some true ∧ Ev1 P ok x o (ev tm1) ds H1 fun v ds1 H2 => EvS S (H2 :: hs) (putD tm1 o.dst v) ds1 K)
end
section
variable {P : Program} {ok : Ok} {x : Ctx} {ops : Array Oper} {base : Nat}
theorem zhj (tm : Tr Value) (d : Option Tmp) (v : Value) : (match d with | some d => tm.put d (some v) | none => tm) = putD tm d v := by cases d <;> rfl
theorem z5v {effs : List Nat} {b : Array Nat} {hs : List Heap} {K : Tr Value → Heap → Prop} : ∀ (L : List Nat) (tm : Tr Value) (H : Heap),
    EvN P ops base hs (L.map fun i => (i, effsIn effs (b.getD i 0))) tm H K → ∃ tm1 H1, dnon P ops b effs base hs L tm H = some (tm1, H1) ∧ K tm1 H1
  | [], tm, H, h => ⟨tm, H, by rw [dnon], h⟩
  | i :: L, tm, H, h => by
    obtain ⟨o, ho, h⟩ := h
    have ho' : ops[i]? = some o := by simpa using ho
    rcases h with ⟨hw, h⟩ | ⟨hw, ha, B, mk, hd, h⟩ | ⟨hw, ha, v, G, gs, G', rfl, hd, hr, h⟩
    · obtain ⟨tm1, H1, e, hk⟩ := z5v L _ _ h
      refine ⟨tm1, H1, ?_, hk⟩
      rw [dnon, ho']
      simp only [hw, zhj]
      exact e
    · obtain ⟨tm1, H1, e, hk⟩ := z5v L _ _ h
      refine ⟨tm1, H1, ?_, hk⟩
      rw [dnon, ho']
      simp only [hw, ha, hd, zhj]
      exact e
    · obtain ⟨tm1, H1, e, hk⟩ := z5v L _ _ h
      refine ⟨tm1, H1, ?_, hk⟩
      rw [dnon, ho']
      simp only [hw, ha, hd, zhj]
      have hc : (!isRead o || (Nat.beq G'.next G.next && sameOn P o (ev tm) v (gs.take (gs.length - effsIn effs (b.getD i 0))))) = true := by
        rcases hr with hr | ⟨h1, h2⟩
        · rw [hr]; rfl
        · rw [h1, h2]; simp
      simp only [hc]
      exact e
def EvDr (P : Program) (ok : Ok) (x : Ctx) (ops : Array Oper) (b : Array Nat) (effs : List Nat) (base : Nat) (es : List Nat) (done : Nat) (hs : List Heap) (tm : Tr Value) (ds : List Deferred) (K : St → Prop) : Prop :=
  Upon (fun n => ddraw P ok n x ops b effs base es done hs tm ds) K
theorem z6n {K : St → Prop} {b : Array Nat} {effs : List Nat} : ∀ (es : List Nat) (done : Nat) (hs : List Heap) (tm : Tr Value) (ds : List Deferred), noTwin b es = true →
    EvS P ok x ops base ((schedGo ops.size b effs es done).map fun p => (p.1.map fun i => (i, effsIn effs (b.getD i 0)), p.2)) hs tm ds K →
    EvDr P ok x ops b effs base es done hs tm ds K
  | [], done, hs, tm, ds, _, h => by
    obtain ⟨G, gs, rfl, h⟩ := h
    obtain ⟨tm1, H1, e, hk⟩ := z5v _ _ _ h
    refine Upon.go (f := fun n => dstage P ok n x ops b effs base [] done (G :: gs) tm ds) (fun n => by rw [ddraw]; rfl) (Upon.now (fun n => ?_) hk)
    rw [dstage]
    simp only [e]
  | e :: es, done, hs, tm, ds, ht, h => by
    unfold noTwin at ht
    rw [Bool.and_eq_true, Option.isNone_iff_eq_none] at ht
    refine Upon.go (f := fun n => dstage P ok n x ops b effs base (e :: es) done hs tm ds) (fun n => by rw [ddraw, ht.1]) ?_
    obtain ⟨G, gs, o, rfl, ho, h⟩ := h
    have ho' : ops[e]? = some o := by simpa using ho
    obtain ⟨tm1, H1, en, hk⟩ := z5v _ _ _ h
    rcases hk with ⟨hw, hk⟩ | ⟨hw, hk⟩
    · refine Upon.go (fun n => ?_) (z6n es _ _ _ ds ht.2 hk)
      rw [dstage]
      simp only at en
      simp only [en, ho', hw]
      cases o.dst <;> rfl
    · refine Upon.step (fun n r => match r with | .val v ds1 H2 => ddraw P ok n x ops b effs base es (done ||| b.getD e 0 ||| 2 ^ e) (H2 :: G :: gs) (putD tm1 o.dst v) ds1 | _ => none) (fun n r hr => ?_) hk ?_
      · rw [dstage]
        simp only at en
        simp only [en, ho', hw, hr]
        cases r <;> cases o.dst <;> rfl
      · rintro r ⟨v, ds1, H2, rfl, hk⟩
        exact z6n es _ _ _ ds1 ht.2 hk
theorem EvC.draw {id : Nat} {st : St} {Q : Ex → St → Prop} {S : List (List (Nat × Nat) × Option Nat)} (hS : sched ops = S)
    (h : EvS P ok x ops st.H.next S [⟨st.H.next + ops.size, st.H.t⟩] st.tm st.ds (Q .normal)) : EvC P ok x (.region id ops true) st Q := by
  subst hS
  unfold sched at h
  split at h
  · exact h.elim
  rename_i hnt
  rw [Bool.not_eq_false] at hnt
  refine Upon.step (fun n st1 => some (.normal, st1)) (fun n r hr => ?_) (z6n (b := Region.before ops) (effs := effsOf ops) (effsOf ops) 0 [⟨st.H.next + ops.size, st.H.t⟩] st.tm st.ds hnt h) ?_
  · have e : dcode P ok (n + 1) x (.region id ops true) st = (match ddraw P ok n x ops (Region.before ops) (effsOf ops) st.H.next (effsOf ops) 0 [⟨st.H.next + ops.size, st.H.t⟩] st.tm st.ds with
        | some st1 => some (.normal, st1)
        | none => match dpan P (dcall P ok n) (fun es done hs tm => ddraw P ok n x ops (Region.before ops) (effsOf ops) st.H.next es done hs tm st.ds) ops (Region.before ops) (effsOf ops) st.H.next ⟨st.H.next + ops.size, st.H.t⟩ st.tm with
          | some (ch, H') => some (.panic ch, ⟨clr ops st.tm, st.ds, H'⟩)
          | none => none) := by
      rw [dcode]; rfl
    rw [e, hr]
  · intro r hq
    exact ⟨0, _, fun n _ => rfl, hq⟩
end
end Go.Hb
end

section
namespace Go.Hb
open Go Go.RowKit
section
variable (P : Program) (ok : Ok) (x : Ctx) (ops : Array Oper)
def LK (d : Option Tmp) (tm : Tr Value) (ds : List Deferred) (H : Heap) (K : Tr Value → List Deferred → Heap → Prop) : Option Dr → Prop
  | some (.val v H') => K (putD tm d v) ds H'
  | some (.call f args) => EvF P ok f args H fun v H' => K (putD tm d v) ds H'
  | some (.yield l args) => EvR P ok l args H fun v H' => K (putD tm d v) ds H'
  | some (.dfr dd) => x.round = none ∧ K (putD tm d undef) (dd :: ds) H
  | _ => False
def GK (d : Option Tmp) (tm : Tr Value) (K L : Prop) (want : Bool) : Option Value → Prop
  | some (.bool b) => if b = want then K else L
  | some (.tuple _) => L
  | _ => False
def guardOf (ops : Array Oper) (tm : Tr Value) (j : Nat) : Option Value :=
  match ops.toList[j]? with
  | some o => match o.dst with
    | some d => tm.get d
    | none => some (.tuple #[])
  | none => some (.tuple #[])
def EL : List Oper → Tr Value → List Deferred → Heap → (Tr Value → List Deferred → Heap → Prop) → Prop
  | [], tm, ds, H, K => K tm ds H
  | o :: os, tm, ds, H, K => match o.guard with
    | none => LK P ok x o.dst tm ds H (fun tm ds H => EL os tm ds H K) (dop P o (ev tm) H)
    | some (j, w) => GK o.dst tm (LK P ok x o.dst tm ds H (fun tm ds H => EL os tm ds H K) (dop P o (ev tm) H)) (EL os (putD tm o.dst undef) ds H K) w (guardOf ops tm j)
end
section
variable {P : Program} {ok : Ok} {x : Ctx} {ops : Array Oper}
theorem z4u {tm : Tr Value} {o : Oper} {j : Nat} {w : Bool} (hg : o.guard = some (j, w)) :
    (∀ b, guardOf ops tm j = some (.bool b) → dwanted ops tm o = some (b == w)) ∧ (∀ l, guardOf ops tm j = some (.tuple l) → dwanted ops tm o = some false) := by
  unfold guardOf dwanted
  rw [hg]
  simp only [Array.getElem?_toList]
  cases ops[j]? with
  | none => simp
  | some oj =>
    simp only [Option.bind_some]
    cases oj.dst with
    | none => simp
    | some d =>
      simp only
      constructor
      · intro b h; rw [h]
      · intro l h; rw [h]
theorem Ev1.of_LK {o : Oper} {d : Option Tmp} {tm : Tr Value} {ds : List Deferred} {H : Heap} {K : Tr Value → List Deferred → Heap → Prop} (h : LK P ok x d tm ds H K (dop P o (ev tm) H)) :
    Ev1 P ok x o (ev tm) ds H fun v ds H => K (putD tm d v) ds H := by
  unfold LK at h
  split at h
  · rename_i v H' hd; exact Ev1.val hd h
  · rename_i f args hd; exact Ev1.call hd h
  · rename_i l args hd; exact Ev1.yield hd h
  · rename_i dd hd
    exact Upon.now (r := .val undef (dd :: ds) H) (fun n => by rw [dop1, hd, h.1]) ⟨undef, dd :: ds, H, rfl, h.2⟩
  · exact h.elim
theorem EvL.of_EL {K : Tr Value → List Deferred → Heap → Prop} : ∀ (os : List Oper) (tm : Tr Value) (ds : List Deferred) (H : Heap), EL P ok x ops os tm ds H K → EvL P ok x ops os ⟨tm, ds, H⟩ fun st => K st.tm st.ds st.H
  | [], tm, ds, H, h => h
  | o :: os, tm, ds, H, h => by
    unfold EL at h
    split at h
    · rename_i hg
      exact .inr ⟨z23 hg, (Ev1.of_LK h).mono fun v ds H h => EvL.of_EL os _ _ _ h⟩
    · rename_i j w hg
      obtain ⟨g1, g2⟩ := z4u (ops := ops) (tm := tm) hg
      unfold GK at h
      split at h
      · rename_i b hb
        have := g1 b hb
        by_cases hbw : b = w
        · rw [if_pos hbw] at h
          refine .inr ⟨by rw [this, hbw]; simp, (Ev1.of_LK h).mono fun v ds H h => EvL.of_EL os _ _ _ h⟩
        · rw [if_neg hbw] at h
          refine .inl ⟨by rw [this]; simp [hbw], EvL.of_EL os _ _ _ h⟩
      · rename_i l hl
        exact .inl ⟨g2 l hl, EvL.of_EL os _ _ _ h⟩
      · exact h.elim
theorem EvC.reg {id : Nat} {ops : Array Oper} {tm : Tr Value} {ds : List Deferred} {H : Heap} {Q : Ex → St → Prop} (h : EL P ok x ops ops.toList tm ds H fun tm ds H => Q .normal ⟨tm, ds, H⟩) : EvC P ok x (.region id ops false) ⟨tm, ds, H⟩ Q :=
  EvC.ops (EvL.of_EL (K := fun tm ds H => Q .normal ⟨tm, ds, H⟩) _ _ _ _ h)
section
variable (P ok x ops) (base : Nat)
def NK (k : Nat) (o : Oper) (tm : Tr Value) (gs : List Heap) (K : Tr Value → Prop) (d : Option Tmp) (nx : Nat) : Option Dr → Prop
  | some (.val v G') => (isRead o = false ∨ (G'.next = nx ∧ sameOn P o (ev tm) v (gs.take (gs.length - k)) = true)) ∧ K (putD tm d v)
  | _ => False
def AK (i : Nat) (tm : Tr Value) (H : Heap) (K : Tr Value → Heap → Prop) (d : Option Tmp) : Option (Blk × (Nat → Value)) → Prop
  | some (B, mk) => K (putD tm d (mk (base + i))) (H.put (base + i) (some B))
  | none => False
def EN1 (G : Heap) (gs : List Heap) (i k : Nat) (tm : Tr Value) (H : Heap) (K : Tr Value → Heap → Prop) : Option Oper → Prop
  | none => False
  | some o =>
    let go : Prop := match isAlloc o with
      | true => AK base i tm H K o.dst (dalloc P o (ev tm))
      | false => NK P k o tm gs (fun tm => K tm H) o.dst G.next (dop P o (ev tm) G)
    match o.guard with
    | none => go
    | some (j, w) => GK o.dst tm go (K (putD tm o.dst undef) H) w (guardOf ops tm j)
def EN (G : Heap) (gs : List Heap) : List (Nat × Nat) → Tr Value → Heap → (Tr Value → Heap → Prop) → Prop
  | [], tm, H, K => K tm H
  | (i, k) :: L, tm, H, K => EN1 P ops base G gs i k tm H (fun tm H => EN G gs L tm H K) ops.toList[i]?
def ES1 (tm : Tr Value) (ds : List Deferred) (H : Heap) (K : Tr Value → List Deferred → Heap → Prop) : Option Oper → Prop
  | none => False
  | some o => match o.guard with
    | none => LK P ok x o.dst tm ds H K (dop P o (ev tm) H)
    | some (j, w) => GK o.dst tm (LK P ok x o.dst tm ds H K (dop P o (ev tm) H)) (K (putD tm o.dst undef) ds H) w (guardOf ops tm j)
def ES : List (List (Nat × Nat) × Option Nat) → Heap → List Heap → Tr Value → List Deferred → (Tr Value → List Deferred → Heap → Prop) → Prop
  | [], _, _, _, _, _ => False
  | (L, none) :: _, G, gs, tm, ds, K => EN P ops base G gs L tm G fun tm H => K tm ds H
  | (L, some e) :: S, G, gs, tm, ds, K => EN P ops base G gs L tm G fun tm H => ES1 P ok x ops tm ds H (fun tm ds H => ES S H (G :: gs) tm ds K) ops.toList[e]?
end
theorem EvN.mono {base : Nat} {hs : List Heap} {K K' : Tr Value → Heap → Prop} (hk : ∀ tm H, K tm H → K' tm H) : ∀ (L : List (Nat × Nat)) (tm : Tr Value) (H : Heap), EvN P ops base hs L tm H K → EvN P ops base hs L tm H K'
  | [], tm, H, h => hk _ _ h
  | (i, k) :: L, tm, H, h => by
    obtain ⟨o, ho, h⟩ := h
    refine ⟨o, ho, ?_⟩
    rcases h with ⟨hw, h⟩ | ⟨hw, ha, B, mk, hd, h⟩ | ⟨hw, ha, v, G, gs, G', rfl, hd, hr, h⟩
    · exact .inl ⟨hw, EvN.mono hk L _ _ h⟩
    · exact .inr (.inl ⟨hw, ha, B, mk, hd, EvN.mono hk L _ _ h⟩)
    · exact .inr (.inr ⟨hw, ha, v, G, gs, G', rfl, hd, hr, EvN.mono hk L _ _ h⟩)
theorem EvN.of_EN {base : Nat} {G : Heap} {gs : List Heap} {K : Tr Value → Heap → Prop} : ∀ (L : List (Nat × Nat)) (tm : Tr Value) (H : Heap), EN P ops base G gs L tm H K → EvN P ops base (G :: gs) L tm H K
  | [], tm, H, h => h
  | (i, k) :: L, tm, H, h => by
    unfold EN EN1 at h
    split at h
    · exact h.elim
    · rename_i o ho
      refine ⟨o, ho, ?_⟩
      have go : dwanted ops tm o = some true → (match isAlloc o with
          | true => AK base i tm H (fun tm H => EN P ops base G gs L tm H K) o.dst (dalloc P o (ev tm))
          | false => NK P k o tm gs (fun tm => EN P ops base G gs L tm H K) o.dst G.next (dop P o (ev tm) G)) →
          ((dwanted ops tm o = some true ∧ isAlloc o = true ∧ ∃ B mk, dalloc P o (ev tm) = some (B, mk) ∧ EvN P ops base (G :: gs) L (putD tm o.dst (mk (base + i))) (H.put (base + i) (some B)) K) ∨
           (dwanted ops tm o = some true ∧ isAlloc o = false ∧ ∃ v G1 gs1 G', G :: gs = G1 :: gs1 ∧ dop P o (ev tm) G1 = some (.val v G') ∧
             (isRead o = false ∨ (G'.next = G1.next ∧ sameOn P o (ev tm) v (gs1.take (gs1.length - k)) = true)) ∧ EvN P ops base (G :: gs) L (putD tm o.dst v) H K)) := fun hw h => by
        cases ha : isAlloc o with
        | true =>
          rw [ha] at h
          simp only at h
          unfold AK at h
          split at h
          · rename_i B mk hd
            exact .inl ⟨hw, rfl, B, mk, hd, EvN.of_EN L _ _ h⟩
          · exact h.elim
        | false =>
          rw [ha] at h
          simp only at h
          unfold NK at h
          split at h
          · rename_i v G' hd
            exact .inr ⟨hw, rfl, v, G, gs, G', rfl, hd, h.1, EvN.of_EN L _ _ h.2⟩
          · exact h.elim
      simp only at h
      split at h
      · rename_i hg
        exact .inr (go (z23 hg) h)
      · rename_i j w hg
        obtain ⟨g1, g2⟩ := z4u (ops := ops) (tm := tm) hg
        unfold GK at h
        split at h
        · rename_i b hb
          have hw := g1 b hb
          by_cases hbw : b = w
          · rw [if_pos hbw] at h
            exact .inr (go (by rw [hw, hbw]; simp) h)
          · rw [if_neg hbw] at h
            refine .inl ⟨by rw [hw]; simp [hbw], EvN.of_EN L _ _ h⟩
        · rename_i l hl
          exact .inl ⟨g2 l hl, EvN.of_EN L _ _ h⟩
        · exact h.elim
theorem EvS.of_ES {base : Nat} {K : Tr Value → List Deferred → Heap → Prop} : ∀ (S : List (List (Nat × Nat) × Option Nat)) (G : Heap) (gs : List Heap) (tm : Tr Value) (ds : List Deferred), ES P ok x ops base S G gs tm ds K → EvS P ok x ops base S (G :: gs) tm ds fun st => K st.tm st.ds st.H
  | [], _, _, _, _, h => h
  | (L, none) :: S, G, gs, tm, ds, h => ⟨G, gs, rfl, EvN.of_EN L _ _ h⟩
  | (L, some e) :: S, G, gs, tm, ds, h => by
    unfold ES at h
    cases ho : ops.toList[e]? with
    | none =>
      rw [ho] at h
      have hno : ∀ (L : List (Nat × Nat)) tm H, EN P ops base G gs L tm H (fun _ _ => False) → False := by
        intro L
        induction L with
        | nil => intro tm H h; exact h
        | cons p L ih =>
          intro tm H h
          obtain ⟨i, k⟩ := p
          have h2 := EvN.of_EN _ _ _ h
          obtain ⟨o, _, h3⟩ := h2
          unfold EN EN1 at h
          split at h
          · exact h
          · rename_i o' ho'
            simp only at h
            have key : ∀ d, (match isAlloc o' with
                | true => AK base i tm H (fun tm H => EN P ops base G gs L tm H fun _ _ => False) d (dalloc P o' (ev tm))
                | false => NK P k o' tm gs (fun tm => EN P ops base G gs L tm H fun _ _ => False) d G.next (dop P o' (ev tm) G)) → False := by
              intro d hh
              split at hh
              · unfold AK at hh
                split at hh
                · exact ih _ _ hh
                · exact hh
              · unfold NK at hh
                split at hh
                · exact ih _ _ hh.2
                · exact hh
            split at h
            · exact key _ h
            · unfold GK at h
              split at h
              · split at h
                · exact key _ h
                · exact ih _ _ h
              · exact ih _ _ h
              · exact h
      exact (hno L tm G (by simpa [ES1] using h)).elim
    | some o =>
      rw [ho] at h
      refine ⟨G, gs, o, rfl, ho, EvN.mono (fun tm1 H1 h => ?_) _ _ _ (EvN.of_EN L _ _ h)⟩
      unfold ES1 at h
      simp only at h
      split at h
      · rename_i hg
        exact .inr ⟨z23 hg, (Ev1.of_LK h).mono fun v ds H h => EvS.of_ES S _ _ _ _ h⟩
      · rename_i j w hg
        obtain ⟨g1, g2⟩ := z4u (ops := ops) (tm := tm1) hg
        unfold GK at h
        split at h
        · rename_i b hb
          have hw := g1 b hb
          by_cases hbw : b = w
          · rw [if_pos hbw] at h
            exact .inr ⟨by rw [hw, hbw]; simp, (Ev1.of_LK h).mono fun v ds H h => EvS.of_ES S _ _ _ _ h⟩
          · rw [if_neg hbw] at h
            exact .inl ⟨by rw [hw]; simp [hbw], EvS.of_ES S _ _ _ _ h⟩
        · rename_i l hl
          exact .inl ⟨g2 l hl, EvS.of_ES S _ _ _ _ h⟩
        · exact h.elim
theorem EvC.drw {id : Nat} {ops : Array Oper} {tm : Tr Value} {ds : List Deferred} {H : Heap} {Q : Ex → St → Prop} (S : List (List (Nat × Nat) × Option Nat)) (hS : sched ops = S)
    (h : ES P ok x ops H.next S ⟨H.next + ops.size, H.t⟩ [] tm ds fun tm ds H => Q .normal ⟨tm, ds, H⟩) : EvC P ok x (.region id ops true) ⟨tm, ds, H⟩ Q :=
  EvC.draw hS (EvS.of_ES (K := fun tm ds H => Q .normal ⟨tm, ds, H⟩) _ _ _ _ _ h)
end
end Go.Hb
end

section
namespace Go.Hb
open Go Go.RowKit
def Heap.wf (H : Heap) : Prop := ∀ i B, H.get i = some B → i < H.next
structure HX (H H' : Heap) : Prop where
 next : H.next ≤ H'.next
 keep : ∀ i, i < H.next → H'.get i = H.get i
 wf : H'.wf
theorem HX.refl {H : Heap} (h : H.wf) : HX H H := ⟨Nat.le_refl _, fun _ _ => rfl, h⟩
theorem HX.trans {A B C : Heap} (h : HX A B) (k : HX B C) : HX A C :=
 ⟨Nat.le_trans h.next k.next, fun i hi => by rw [k.keep i (Nat.lt_of_lt_of_le hi h.next), h.keep i hi], k.wf⟩
theorem HX.new {A H : Heap} (h : HX A H) (B : Option Blk) : HX A (H.new B) := by
 refine ⟨Nat.le_succ_of_le h.next, fun i hi => ?_, fun i C hC => ?_⟩
 ·rw [Heap.get_new, if_neg (by have := h.next; omega)]; exact h.keep i hi
 ·rw [Heap.get_new] at hC
  show i < H.next + 1
  by_cases hi : i = H.next
  ·omega
  ·rw [if_neg hi] at hC; have := h.wf i C hC; omega
theorem HX.put {A H : Heap} (h : HX A H) {i : Nat} (hi : A.next ≤ i) (hl : i < H.next) (B : Option Blk) : HX A (H.put i B) := by
 refine ⟨h.next, fun j hj => ?_, fun j C hC => ?_⟩
 ·rw [Heap.get_put, if_neg (by omega)]; exact h.keep j hj
 ·rw [Heap.get_put] at hC
  show j < H.next
  by_cases hj : j = i
  ·omega
  ·rw [if_neg hj] at hC; exact h.wf j C hC
theorem HX.bump {A H : Heap} (h : HX A H) (k : Nat) : HX A ⟨H.next + k, H.t⟩ :=
 ⟨Nat.le_trans h.next (Nat.le_add_right _ _), h.keep, fun i B hB => Nat.lt_of_lt_of_le (h.wf i B hB) (Nat.le_add_right _ _)⟩
theorem HX.cells {H H' : Heap} (h : HX H H') {i : Nat} {cs : List Value} (hw : H.wf) (hc : H.cells i = some cs) : H'.cells i = some cs := by
 have hlt : i < H.next := by
  unfold Heap.cells at hc
  cases hg : H.get i with
  | none => rw [hg] at hc; cases hc
  | some B => exact hw i B hg
 unfold Heap.cells at hc ⊢
 rw [h.keep i hlt]; exact hc
theorem HX.load {H H' : Heap} (h : HX H H') {a : Addr} {n : Nat} {l : List Value} (hw : H.wf) (hl : H.load a n = some l) : H'.load a n = some l := by
 unfold Heap.load at hl ⊢
 split at hl
 ·rename_i cs hs hc
  rw [hs, h.cells hw hc]
  exact hl
 ·cases hl
theorem zkd {P : Program} {W : World} : (heapW P W).wf := by
 intro i B hB
 rw [z74] at hB
 split at hB
 ·show i < deadAt P W + 1
  unfold deadAt; omega
 ·cases hB
inductive Tm where
 | mk (kind : Int) (name num : ByteArray) (bits var : Int) (args : List Tm)
def Tm.args : Tm → List Tm | .mk _ _ _ _ _ l => l
def Tm.kind : Tm → Int | .mk k _ _ _ _ _ => k
def Tm.name : Tm → ByteArray | .mk _ s _ _ _ _ => s
def Tm.num : Tm → ByteArray | .mk _ _ s _ _ _ => s
def Tm.bits : Tm → Int | .mk _ _ _ b _ _ => b
def Tm.var : Tm → Int | .mk _ _ _ _ v _ => v
def i64 (n : Int) : Prop := -9223372036854775808 ≤ n ∧ n ≤ 9223372036854775807
def u64 (n : Int) : Prop := 0 ≤ n ∧ n ≤ 18446744073709551615
inductive RepT (H : Heap) : Tm → List Value → Prop
 | mk (k : Int) (s u : ByteArray) (b v : Int) (l : List Tm) (a : Option Addr) (c : Nat) (cells : Nat → List Value) : i64 k → s.size ≤ maxLen → u.size ≤ maxLen → u64 b → i64 v → l.length ≤ maxLen →
   l.length ≤ c → c ≤ maxLen → (a = none → l = [] ∧ c = 0) →
   (∀ i ad, i < l.length → a = some ad → ad.spot = none ∧ H.load ⟨ad.block, ad.off + i * 6, none⟩ 6 = some (cells i)) → (∀ i t, l[i]? = some t → RepT H t (cells i)) →
   RepT H (.mk k s u b v l) [.int .i64 k, .string s, .string u, .int .u64 b, .int .i64 v, .slice a l.length c]
theorem RepT.mono {H H' : Heap} (h : HX H H') (hw : H.wf) : ∀ {t : Tm} {cs : List Value}, RepT H t cs → RepT H' t cs := by
 intro t cs r
 induction r with
 | mk k s u b v l a c cells h1 h2 h3 h4 h5 h6 h7 h8 h9 h10 h11 ih =>
  exact .mk k s u b v l a c cells h1 h2 h3 h4 h5 h6 h7 h8 h9 (fun i ad hi ha => ⟨(h10 i ad hi ha).1, h.load hw (h10 i ad hi ha).2⟩) ih
structure RepL (H : Heap) (l : List Tm) (a : Option Addr) (c : Nat) (cells : Nat → List Value) : Prop where
 len : l.length ≤ c
 cap : c ≤ maxLen
 nil : a = none → l = [] ∧ c = 0
 load : ∀ i ad, i < l.length → a = some ad → ad.spot = none ∧ H.load ⟨ad.block, ad.off + i * 6, none⟩ 6 = some (cells i)
 rep : ∀ i t, l[i]? = some t → RepT H t (cells i)
theorem RepL.mono {H H' : Heap} (h : HX H H') (hw : H.wf) {l : List Tm} {a : Option Addr} {c : Nat} {cells : Nat → List Value} (r : RepL H l a c cells) : RepL H' l a c cells :=
 ⟨r.len, r.cap, r.nil, fun i ad hi ha => ⟨(r.load i ad hi ha).1, h.load hw (r.load i ad hi ha).2⟩, fun i t ht => (r.rep i t ht).mono h hw⟩
theorem RepT.inv {H : Heap} {t : Tm} {cs : List Value} (r : RepT H t cs) : ∃ a c cells, cs = [.int .i64 t.kind, .string t.name, .string t.num, .int .u64 t.bits, .int .i64 t.var, .slice a t.args.length c] ∧
  i64 t.kind ∧ t.name.size ≤ maxLen ∧ t.num.size ≤ maxLen ∧ u64 t.bits ∧ i64 t.var ∧ RepL H t.args a c cells := by
 cases r with
 | mk k s u b v l a c cells h1 h2 h3 h4 h5 h6 h7 h8 h9 h10 h11 => exact ⟨a, c, cells, rfl, h1, h2, h3, h4, h5, h7, h8, h9, h10, h11⟩
theorem RepL.at {H : Heap} {l : List Tm} {a : Option Addr} {c : Nat} {cells : Nat → List Value} (r : RepL H l a c cells) {i : Nat} {t : Tm} (h : l[i]? = some t) :
  ∃ b o, a = some ⟨b, o, none⟩ ∧ H.load ⟨b, o + i * 6, none⟩ 6 = some (cells i) ∧ RepT H t (cells i) := by
 have hi : i < l.length := (List.getElem?_eq_some_iff.1 h).1
 cases a with
 | none => obtain ⟨rfl, _⟩ := r.nil rfl; simp at hi
 | some ad =>
  obtain ⟨h1, h2⟩ := r.load i ad hi rfl
  obtain ⟨b, o, s⟩ := ad
  obtain rfl : s = none := h1
  exact ⟨b, o, rfl, h2, r.rep i t h⟩
end Go.Hb
end

section
namespace Go.Hb
open Go Go.RowKit
theorem z02 {k : St → Prop} {Q : Ex → St → Prop} {st : St} : Ex.thenC k Q .normal st = k st := _root_.id rfl
theorem z47 {k : St → Prop} {Q : Ex → St → Prop} {st : St} {i : Nat} : Ex.thenC k Q (.exit i) st = Q (.exit i) st := _root_.id rfl
theorem z01 {k : St → Prop} {Q : Ex → St → Prop} {st : St} : Ex.thenC k Q .ret st = Q .ret st := _root_.id rfl
theorem z2u {id j : Nat} {Q : Ex → St → Prop} {st : St} : Ex.inBlock id Q (.exit j) st = if j = id then Q .normal st else Q (.exit j) st := _root_.id rfl
theorem z03 {id : Nat} {Q : Ex → St → Prop} {st : St} : Ex.inBlock id Q .normal st = Q .normal st := _root_.id rfl
theorem z00 {id : Nat} {Q : Ex → St → Prop} {st : St} : Ex.inBlock id Q .ret st = Q .ret st := _root_.id rfl
theorem zke {P : Program} {fn : Func} {tm : Tr Value} {H : Heap} {r : Tmp} (h : fn.results.toList = [.tmp r]) : dres P fn tm H = some ((tm.get r).getD junk) := by
 simp only [dres, h, dresL, dres1]
theorem zkf {P : Program} {fn : Func} {tm : Tr Value} {H : Heap} {r q : Tmp} (h : fn.results.toList = [.tmp r, .tmp q]) : dres P fn tm H = some (.tuple ⟨[(tm.get r).getD junk, (tm.get q).getD junk]⟩) := by
 simp only [dres, h, dresL, dres1]
theorem z06 {P : Program} {ok : Ok} {fn : Func} {tm : Tr Value} {H : Heap} {r : Tmp} {v : Value} {K : Value → Heap → Prop} (h : fn.results.toList = [.tmp r]) (hv : tm.get r = some v) (hk : K v H) : Ex.leave P ok fn K .ret ⟨tm, [], H⟩ :=
 EvV.now (v := v) (by rw [zke h, hv]; rfl) hk
def guardGet (tm : Tr Value) : Option Oper → Option Value
 | some ⟨some d, _, _, _, _, _⟩ => tm.get d
 | _ => some (.tuple #[])
theorem z8o {ops : Array Oper} {tm : Tr Value} {j : Nat} : guardOf ops tm j = guardGet tm ops.toList[j]? := by
 unfold guardOf guardGet
 cases ops.toList[j]? with
 | none => rfl
 | some o =>
  obtain ⟨d, op, ty, pos, af, g⟩ := o
  cases d <;> rfl
theorem z59 {tm : Tr Value} {d : Tmp} {op : Op} {ty : TypeId} {pos : String} {af : Array Edge} {g : Option (Nat × Bool)} : guardGet tm (some ⟨some d, op, ty, pos, af, g⟩) = tm.get d := _root_.id rfl
theorem EvC.cut {P : Program} {ok : Ok} {x : Ctx} {a b : Code} {st : St} {Q : Ex → St → Prop} (R : St → Prop) (h1 : EvC P ok x a st (fun e st1 => e = .normal ∧ R st1)) (h2 : ∀ st1, R st1 → EvC P ok x b st1 Q) : EvC P ok x (.seq a b) st Q := by
 refine EvC.seq (h1.mono fun e st1 ⟨he, hr⟩ => ?_)
 subst he
 exact h2 st1 hr
theorem EvC.meet {P : Program} {ok : Ok} {x : Ctx} {c : Code} {st : St} {Q : Ex → St → Prop} (R : St → Prop) (h1 : EvC P ok x c st (fun e st1 => e = .normal ∧ R st1)) (h2 : ∀ st1, R st1 → Q .normal st1) : EvC P ok x c st Q :=
 h1.mono fun e st1 ⟨he, hr⟩ => by subst he; exact h2 st1 hr
theorem EvC.join {P : Program} {ok : Ok} {x : Ctx} {c : Code} {st : St} {Q : Ex → St → Prop} (R : St → Prop) (h1 : EvC P ok x c st (Ex.thenC R Q)) (h2 : ∀ st1, R st1 → Q .normal st1) : EvC P ok x c st Q :=
 h1.mono fun e st1 h => by
  cases e with
  | normal => exact h2 st1 h
  | _ => exact h
theorem EvC.frame {P : Program} {ok : Ok} {x : Ctx} {c : Code} {tm : Tr Value} {ds : List Deferred} {H : Heap} {Q : Ex → St → Prop} (R : Tr Value → Prop) (h1 : R tm) (h2 : ∀ tm, R tm → EvC P ok x c ⟨tm, ds, H⟩ Q) : EvC P ok x c ⟨tm, ds, H⟩ Q := h2 tm h1
theorem LK.mono {P : Program} {ok : Ok} {x : Ctx} {d : Option Tmp} {tm : Tr Value} {ds : List Deferred} {H : Heap} {K L : Tr Value → List Deferred → Heap → Prop} {r : Option Dr} (h : LK P ok x d tm ds H K r) (k : ∀ tm ds H, K tm ds H → L tm ds H) : LK P ok x d tm ds H L r := by
 unfold LK at h ⊢
 split at h
 ·exact k _ _ _ h
 ·exact h.mono fun v H' hk => k _ _ _ hk
 ·exact Upon.mono h fun _ hk => k _ _ _ hk
 ·exact ⟨h.1, k _ _ _ h.2⟩
 ·exact h
theorem EL.mono {P : Program} {ok : Ok} {x : Ctx} {ops : Array Oper} {K L : Tr Value → List Deferred → Heap → Prop} (k : ∀ tm ds H, K tm ds H → L tm ds H) : ∀ (os : List Oper) (tm : Tr Value) (ds : List Deferred) (H : Heap), EL P ok x ops os tm ds H K → EL P ok x ops os tm ds H L
 | [], tm, ds, H, h => k _ _ _ h
 | o :: os, tm, ds, H, h => by
  unfold EL at h ⊢
  split at h
  ·exact h.mono fun tm ds H h => EL.mono k os tm ds H h
  ·unfold GK at h ⊢
   split at h
   ·split at h
    ·rename_i hb; simp only [hb, if_true]; exact h.mono fun tm ds H h => EL.mono k os tm ds H h
    ·rename_i hb; simp only [hb, if_false]; exact EL.mono k os _ _ _ h
   ·exact EL.mono k os _ _ _ h
   ·exact h
theorem EL.append {P : Program} {ok : Ok} {x : Ctx} {ops : Array Oper} {K : Tr Value → List Deferred → Heap → Prop} {b : List Oper} : ∀ (a : List Oper) (tm : Tr Value) (ds : List Deferred) (H : Heap), EL P ok x ops a tm ds H (fun tm ds H => EL P ok x ops b tm ds H K) → EL P ok x ops (a ++ b) tm ds H K
 | [], tm, ds, H, h => h
 | o :: os, tm, ds, H, h => by
  rw [List.cons_append]
  unfold EL at h ⊢
  split at h
  ·exact h.mono fun tm ds H h => EL.append os tm ds H h
  ·unfold GK at h ⊢
   split at h
   ·split at h
    ·rename_i hb; simp only [hb, if_true]; exact h.mono fun tm ds H h => EL.append os tm ds H h
    ·rename_i hb; simp only [hb, if_false]; exact EL.append os _ _ _ h
   ·exact EL.append os _ _ _ h
   ·exact h
theorem EL.join {P : Program} {ok : Ok} {x : Ctx} {ops : Array Oper} {K : Tr Value → List Deferred → Heap → Prop} {os : List Oper} {tm : Tr Value} {ds : List Deferred} {H : Heap} (n : Nat) (R : Tr Value → Prop)
  (h1 : EL P ok x ops (os.take n) tm ds H fun tm' ds' H' => ds' = ds ∧ H' = H ∧ R tm') (h2 : ∀ tm', R tm' → EL P ok x ops (os.drop n) tm' ds H K) : EL P ok x ops os tm ds H K := by
 rw [← List.take_append_drop n os]
 refine EL.append _ _ _ _ (h1.mono ?_ _ _ _ _)
 rintro tm' ds' H' ⟨rfl, rfl, hr⟩
 exact h2 tm' hr
theorem zlh (tm : Tr Value) (t : Tmp) : ev tm (.tmp t) = (tm.get t).getD junk := _root_.id rfl
theorem zds (tm : Tr Value) (v : Value) : ev tm (.const v) = v := _root_.id rfl
theorem zb0 (tm : Tr Value) (g : Nat) : ev tm (.global g) = .pointer (some ⟨g, 0, none⟩) := _root_.id rfl
theorem zhk (tm : Tr Value) (f : FuncId) : ev tm (.func f) = .func (.func f) #[] #[] := _root_.id rfl
theorem zdt (tm : Tr Value) (d : Tmp) (v : Value) : putD tm (some d) v = tm.put d (some v) := _root_.id rfl
theorem zdu (tm : Tr Value) (v : Value) : putD tm none v = tm := _root_.id rfl
theorem zli {P : Program} {ok : Ok} {x : Ctx} {ops : Array Oper} {tm : Tr Value} {ds : List Deferred} {H : Heap} {K : Tr Value → List Deferred → Heap → Prop} : EL P ok x ops [] tm ds H K = K tm ds H := _root_.id rfl
def LX (P : Program) (ok : Ok) (x : Ctx) (ops : Array Oper) (d : Option Tmp) (os : List Oper) (tm : Tr Value) (ds : List Deferred) (H : Heap) (K : Tr Value → List Deferred → Heap → Prop) (r : Option Dr) : Prop :=
 LK P ok x d tm ds H (fun tm ds H => EL P ok x ops os tm ds H K) r
def LG (P : Program) (ok : Ok) (x : Ctx) (ops : Array Oper) (o : Oper) (os : List Oper) (tm : Tr Value) (ds : List Deferred) (H : Heap) (K : Tr Value → List Deferred → Heap → Prop) (w : Bool) (g : Option Value) : Prop :=
 GK o.dst tm (LX P ok x ops o.dst os tm ds H K (dop P o (ev tm) H)) (EL P ok x ops os (putD tm o.dst undef) ds H K) w g
section
variable {P : Program} {ok : Ok} {x : Ctx} {ops : Array Oper} {os : List Oper} {tm : Tr Value} {ds : List Deferred} {H H' : Heap} {K : Tr Value → List Deferred → Heap → Prop} {d : Option Tmp} {op : Op} {ty : TypeId} {pos : String} {af : Array Edge} {j : Nat} {w : Bool}
theorem zhl : EL P ok x ops (⟨d, op, ty, pos, af, none⟩ :: os) tm ds H K = LX P ok x ops d os tm ds H K (dop P ⟨d, op, ty, pos, af, none⟩ (ev tm) H) := _root_.id rfl
theorem zdv : EL P ok x ops (⟨d, op, ty, pos, af, some (j, w)⟩ :: os) tm ds H K = LG P ok x ops ⟨d, op, ty, pos, af, some (j, w)⟩ os tm ds H K w (guardOf ops tm j) := _root_.id rfl
theorem zlj {v : Value} : LX P ok x ops d os tm ds H K (some (.val v H')) = EL P ok x ops os (putD tm d v) ds H' K := _root_.id rfl
theorem zhm {f : FuncId} {args : List Value} : LX P ok x ops d os tm ds H K (some (.call f args)) = EvF P ok f args H fun v H' => EL P ok x ops os (putD tm d v) ds H' K := _root_.id rfl
theorem zdw {l : Nat} {args : List Value} : LX P ok x ops d os tm ds H K (some (.yield l args)) = EvR P ok l args H fun v H' => EL P ok x ops os (putD tm d v) ds H' K := _root_.id rfl
theorem zo4 {g : Option (Nat × Bool)} : LG P ok x ops ⟨d, op, ty, pos, af, g⟩ os tm ds H K true (some (.bool true)) = LX P ok x ops d os tm ds H K (dop P ⟨d, op, ty, pos, af, g⟩ (ev tm) H) := _root_.id rfl
theorem zo5 {g : Option (Nat × Bool)} : LG P ok x ops ⟨d, op, ty, pos, af, g⟩ os tm ds H K false (some (.bool false)) = LX P ok x ops d os tm ds H K (dop P ⟨d, op, ty, pos, af, g⟩ (ev tm) H) := _root_.id rfl
theorem zo6 {g : Option (Nat × Bool)} : LG P ok x ops ⟨d, op, ty, pos, af, g⟩ os tm ds H K true (some (.bool false)) = EL P ok x ops os (putD tm d undef) ds H K := _root_.id rfl
theorem zo7 {g : Option (Nat × Bool)} : LG P ok x ops ⟨d, op, ty, pos, af, g⟩ os tm ds H K false (some (.bool true)) = EL P ok x ops os (putD tm d undef) ds H K := _root_.id rfl
theorem zdx {g : Option (Nat × Bool)} : LG P ok x ops ⟨d, op, ty, pos, af, g⟩ os tm ds H K w (some undef) = EL P ok x ops os (putD tm d undef) ds H K := _root_.id rfl
end
section
variable (P : Program)
def dPick (c a b : Value) (H : Heap) : Option Dr := match c with | .bool true => some (.val a H) | .bool false => some (.val b H) | _ => none
def dBin (op : BinOp) (t : TypeId) (x y : Operand) (a b : Value) (H : Heap) : Option Dr :=
 match dnil P op t a b with
 | some v => some (.val v H)
 | none => match (flat a && (flat b && true)), pureRun P (do let r ← (do eqGuard op t x y a b; binOp op t a b); pure (Next.value r)) with
  | true, some (.value v) => match flat v with
   | true => some (.val v H)
   | false => none
  | _, _ => none
def dLoad (t : TypeId) (a : Value) (H : Heap) : Option Dr := match a with | .pointer (some ad) => (dload P t ad H).map (.val · H) | _ => none
def dStore (t : TypeId) (a v : Value) (H : Heap) : Option Dr :=
 match a with
 | .pointer (some ad) => if Nat.beq v.cells.size (P.cellsOf t) && (P.info? t).isSome then (H.store ad v.cells.toList).map (.val undef ·) else none
 | _ => none
def fldOf (t : TypeId) (f : Nat) : Option (Nat × TypeId) := match P.underlying t with | some (.struct fs) => (fs.toList[f]?).map fun fd => (fd.offset, fd.type) | _ => none
def dField (t : TypeId) (x : Value) (f : Nat) (H : Heap) : Option Dr :=
 match P.underlying t, x with
 | some (.struct fs), .agg cs => match fs.toList[f]? with
  | some fd => (dpart P fd.type cs fd.offset).map (.val · H)
  | none => none
 | _, _ => none
def dFieldAddr (t : TypeId) (x : Value) (f : Nat) (H : Heap) : Option Dr :=
 match P.underlying t, x with
 | some (.struct fs), .pointer (some a) => match fs.toList[f]? with
  | some fd => if a.spot.isNone && !(Nat.beq (P.cellsOf fd.type) 0) then some (.val (.pointer (some ⟨a.block, a.off + fd.offset, none⟩)) H) else none
  | none => none
 | _, _ => none
def dIndexAddr (t : TypeId) (x ix : Value) (H : Heap) : Option Dr :=
 match P.underlying t, x with
 | some (.slice e), .slice (some a) n _ => match intBetween ix (n - 1), Nat.beq n 0, a.spot, (P.info? e).isSome with
  | some i, false, none, true => some (.val (.pointer (some ⟨a.block, a.off + i * P.cellsOf e, none⟩)) H)
  | _, _, _, _ => none
 | some (.array n e), .pointer (some a) => match intBetween ix (n - 1), Nat.beq n 0, a.spot, (P.info? e).isSome with
  | some i, false, none, true => some (.val (.pointer (some ⟨a.block, a.off + i * P.cellsOf e, none⟩)) H)
  | _, _, _, _ => none
 | _, _ => none
def dLen (ts : Option TypeId) (x : Value) (H : Heap) : Option Dr :=
 match x with
 | .slice _ n _ => match ts.bind P.underlying with
  | some (.slice _) => some (.val (goInt n) H)
  | _ => none
 | .map (some r) => match ts.bind P.underlying, H.get r with
  | some (.map _ _), some (.map es _) => some (.val (goInt es.length) H)
  | _, _ => none
 | _ => none
def callable (f : FuncId) : Bool := match P.funcs[f]? with | some fn => fn.body.isSome && !(fn.name == "runtime.NumGoroutine") | none => false
end
section
variable {P : Program} {d : Option Tmp} {ty : TypeId} {pos : String} {af : Array Edge} {g : Option (Nat × Bool)} {ρ : Operand → Value} {H : Heap}
theorem zdy {a : Operand} : dop P ⟨d, .move a, ty, pos, af, g⟩ ρ H = some (.val (ρ a) H) := _root_.id rfl
theorem z48 {a : Operand} : dop P ⟨d, .assign a, ty, pos, af, g⟩ ρ H = some (.val (ρ a) H) := _root_.id rfl
theorem zdz {c a b : Operand} : dop P ⟨d, .pick c a b, ty, pos, af, g⟩ ρ H = dPick (ρ c) (ρ a) (ρ b) H := _root_.id rfl
theorem z8p {b : Bool} {v w : Value} : dPick (.bool b) v w H = some (.val (if b = true then v else w) H) := by cases b <;> rfl
theorem ze0 {t : TypeId} {a : Operand} : dop P ⟨d, .load t a, ty, pos, af, g⟩ ρ H = dLoad P t (ρ a) H := _root_.id rfl
theorem zb1 {t : TypeId} {a v : Operand} : dop P ⟨d, .store t a v, ty, pos, af, g⟩ ρ H = dStore P t (ρ a) (ρ v) H := _root_.id rfl
theorem zb2 {t : TypeId} {a : Operand} {f : Nat} : dop P ⟨d, .field t a f, ty, pos, af, g⟩ ρ H = dField P t (ρ a) f H := _root_.id rfl
theorem z5a {t : TypeId} {a : Operand} {f : Nat} : dop P ⟨d, .fieldAddr t a f, ty, pos, af, g⟩ ρ H = dFieldAddr P t (ρ a) f H := _root_.id rfl
theorem z5b {t : TypeId} {a i : Operand} : dop P ⟨d, .indexAddr t a i, ty, pos, af, g⟩ ρ H = dIndexAddr P t (ρ a) (ρ i) H := _root_.id rfl
theorem zhn {op : BinOp} {t u : TypeId} {a b : Operand} : dop P ⟨d, .binOp op t a b u, ty, pos, af, g⟩ ρ H = dBin P op t a b (ρ a) (ρ b) H := _root_.id rfl
theorem z08 {f : FuncId} {args : Array Operand} {ats : Array TypeId} {tm : Tr Value} (h : callable P f = true) :
  dop P ⟨d, .call ⟨.value (.func f), args, ats⟩, ty, pos, af, g⟩ (ev tm) H = some (.call f (args.toList.map (ev tm))) := by
 unfold callable at h
 simp only [dop, ev]
 cases hf : P.funcs[f]? with
 | none => rw [hf] at h; cases h
 | some fn =>
  rw [hf] at h
  simp only at h
  simp [dcall1, hf, h]
theorem ze1 {t : TypeId} {x y : Operand} {k : IntKind} {a b : Int} : dBin P .add t x y (.int k a) (.int k b) H = some (.val (.int k (k.wrap (a + b))) H) := by
 simp [dBin, dnil, flat, eqGuard, binOp, Op.intArith, Sem.bind]; rfl
theorem ze2 {t : TypeId} {x y : Operand} {k : IntKind} {a b : Int} : dBin P .lss t x y (.int k a) (.int k b) H = some (.val (.bool (decide (a < b))) H) := by
 simp [dBin, dnil, flat, eqGuard, binOp, Op.intCmp, Sem.bind]; rfl
def cutC (cs : List Value) (o n : Nat) : Option (List Value) := let l := (cs.drop o).take n; if Nat.beq l.length n then some l else none
def dloadA (n : Nat) (l : Option (List Value)) (H : Heap) : Option Dr := (l.map fun l => Value.agg ⟨l⟩).map (.val · H)
def dload1 (l : Option (List Value)) (H : Heap) : Option Dr := match l with | some [v] => some (.val v H) | _ => none
theorem z1i {t : TypeId} {ad : Addr} (h : isAgg? P t = some true) : dLoad P t (.pointer (some ad)) H = dloadA (P.cellsOf t) (H.load ad (P.cellsOf t)) H := by
 simp only [dLoad, dload, h, dloadA]
theorem z09 {t : TypeId} {ad : Addr} (h : isAgg? P t = some false) : dLoad P t (.pointer (some ad)) H = dload1 (H.load ad 1) H := by
 simp only [dLoad, dload, h, dload1]
 split
 ·rename_i v hv; rw [hv]; rfl
 ·rename_i hv
  split
  ·rename_i v hv2; exact absurd hv2 (hv v)
  ·rfl
theorem z76 {n : Nat} {l : List Value} : dloadA n (some l) H = some (.val (.agg ⟨l⟩) H) := _root_.id rfl
theorem z77 {v : Value} : dload1 (some [v]) H = some (.val v H) := _root_.id rfl
theorem z9r {b o n : Nat} {B : Option Blk} : (H.new B).load ⟨b, o, none⟩ n = if b = H.next then (match B with | some (.ro cs _) | some (.row cs _) => cutC cs o n | _ => none) else H.load ⟨b, o, none⟩ n := by
 unfold Heap.load Heap.cells
 rw [Heap.get_new]
 by_cases h : b = H.next
 ·rw [if_pos h, if_pos h]
  cases B with
  | none => rfl
  | some B => cases B <;> rfl
 ·rw [if_neg h, if_neg h]
theorem ze3 {b o n i : Nat} {B : Option Blk} : (H.put i B).load ⟨b, o, none⟩ n = if b = i then (match B with | some (.ro cs _) | some (.row cs _) => cutC cs o n | _ => none) else H.load ⟨b, o, none⟩ n := by
 unfold Heap.load Heap.cells
 rw [Heap.get_put]
 by_cases h : b = i
 ·rw [if_pos h, if_pos h]
  cases B with
  | none => rfl
  | some B => cases B <;> rfl
 ·rw [if_neg h, if_neg h]
theorem ze4 {B : Option Blk} : (H.new B).next = H.next + 1 := _root_.id rfl
theorem z07 {i : Nat} {B : Option Blk} : (H.put i B).next = H.next := _root_.id rfl
theorem get_new {B : Option Blk} {j : Nat} : (H.new B).get j = if j = H.next then B else H.get j := Heap.get_new _ _ _
theorem get_put {B : Option Blk} {i j : Nat} : (H.put i B).get j = if j = i then B else H.get j := Heap.get_put _ _ _ _
def dStoreB (ad : Addr) (vs : List Value) (H : Heap) : Option Blk → Option Dr
 | some (.row cs e) => if ad.off + vs.length ≤ cs.length ∧ vs.all one = true then some (.val undef (H.put ad.block (some (.row (splice cs ad.off vs) e)))) else none
 | _ => none
theorem zg7 {t : TypeId} {b o : Nat} {v : Value} (h : (P.info? t).isSome = true) (hc : v.cells.size = P.cellsOf t) : dStore P t (.pointer (some ⟨b, o, none⟩)) v H = dStoreB ⟨b, o, none⟩ v.cells.toList H (H.get b) := by
 simp only [dStore, h, hc, Nat.beq_refl, Bool.and_self, if_true]
 unfold Heap.store dStoreB
 simp only
 cases H.get b with
 | none => rfl
 | some B =>
  cases B with
  | row cs e =>
   simp only
   split <;> rfl
  | _ => rfl
def dStoreIf (c : Bool) (ad : Addr) (vs : List Value) (H : Heap) (B : Option Blk) : Option Dr := if c = true then dStoreB ad vs H B else none
theorem z3g {ad : Addr} {vs : List Value} {B : Option Blk} : dStoreIf true ad vs H B = dStoreB ad vs H B := _root_.id rfl
theorem z8q {t : TypeId} {b o : Nat} {v : Value} (h : (P.info? t).isSome = true) : dStore P t (.pointer (some ⟨b, o, none⟩)) v H = dStoreIf (Nat.beq v.cells.size (P.cellsOf t)) ⟨b, o, none⟩ v.cells.toList H (H.get b) := by
 cases hc : Nat.beq v.cells.size (P.cellsOf t) with
 | true => rw [z3g]; exact zg7 h (Nat.beq_eq.mp hc)
 | false => simp only [dStore, hc, Bool.false_and]; rfl
theorem z5w {t : TypeId} {b o : Nat} {cs : List Value} (h : (P.info? t).isSome = true) : dStore P t (.pointer (some ⟨b, o, none⟩)) (.agg ⟨cs⟩) H = dStoreIf (Nat.beq cs.length (P.cellsOf t)) ⟨b, o, none⟩ cs H (H.get b) := z8q h
theorem z2k {t : TypeId} {b o : Nat} {v : Value} (h : (P.info? t).isSome = true) (h1 : P.cellsOf t = 1) (hv : v.cells = #[v]) : dStore P t (.pointer (some ⟨b, o, none⟩)) v H = dStoreB ⟨b, o, none⟩ [v] H (H.get b) := by
 rw [z8q h, hv, h1]; rfl
theorem z36 {t : TypeId} {b o : Nat} {k : IntKind} {n : Int} (h : (P.info? t).isSome = true) (h1 : P.cellsOf t = 1) : dStore P t (.pointer (some ⟨b, o, none⟩)) (.int k n) H = dStoreB ⟨b, o, none⟩ [.int k n] H (H.get b) := z2k h h1 rfl
theorem z3h {t : TypeId} {b o : Nat} {s : ByteArray} (h : (P.info? t).isSome = true) (h1 : P.cellsOf t = 1) : dStore P t (.pointer (some ⟨b, o, none⟩)) (.string s) H = dStoreB ⟨b, o, none⟩ [.string s] H (H.get b) := z2k h h1 rfl
theorem z2v {t : TypeId} {b o n c : Nat} {a : Option Addr} (h : (P.info? t).isSome = true) (h1 : P.cellsOf t = 1) : dStore P t (.pointer (some ⟨b, o, none⟩)) (.slice a n c) H = dStoreB ⟨b, o, none⟩ [.slice a n c] H (H.get b) := z2k h h1 rfl
theorem z78 {b o : Nat} {vs cs : List Value} {e : TypeId} : dStoreB ⟨b, o, none⟩ vs H (some (.row cs e)) = if o + vs.length ≤ cs.length ∧ vs.all one = true then some (.val undef (H.put b (some (.row (splice cs o vs) e)))) else none := _root_.id rfl
theorem z3i {cs vs : List Value} : splice cs 0 vs = vs ++ cs.drop vs.length := by cases cs <;> rfl
theorem z79 {c : Value} {cs vs : List Value} {n : Nat} : splice (c :: cs) (n + 1) vs = c :: splice cs n vs := _root_.id rfl
def dBox (e : TypeId) (v : Value) (H : Heap) : Option Dr := if v.cells.toList.all one then some (.val (.pointer (some ⟨H.next, 0, none⟩)) (H.new (some (.row v.cells.toList e)))) else none
theorem zho {e : TypeId} {a : Operand} : dop P ⟨d, .box e a, ty, pos, af, g⟩ ρ H = dBox e (ρ a) H := _root_.id rfl
def zerosOf (P : Program) (e : TypeId) : Option (List Value) := match pureRun P (zeroValue e) with | some z => if flat z && z.cells.toList.all one then some z.cells.toList else none | none => none
def dAlloc (e : TypeId) (H : Heap) : Option (List Value) → Option Dr
 | some cs => some (.val (.pointer (some ⟨H.next, 0, none⟩)) (H.new (some (.row cs e))))
 | none => none
theorem zb3 {e : TypeId} : dop P ⟨d, .alloc e, ty, pos, af, g⟩ ρ H = dAlloc e H (zerosOf P e) := by
 simp only [dop, zerosOf]
 cases pureRun P (zeroValue e) with
 | none => rfl
 | some z =>
  simp only
  split <;> rfl
theorem z05 {t : TypeId} {f b o off : Nat} {u : TypeId} (h : fldOf P t f = some (off, u)) (hn : Nat.beq (P.cellsOf u) 0 = false) : dFieldAddr P t (.pointer (some ⟨b, o, none⟩)) f H = some (.val (.pointer (some ⟨b, o + off, none⟩)) H) := by
 unfold fldOf at h
 unfold dFieldAddr
 split at h
 ·rename_i fs hu
  rw [hu]
  simp only
  cases hf : fs.toList[f]? with
  | none => rw [hf] at h; cases h
  | some fd =>
   rw [hf] at h
   simp only [Option.map_some, Option.some.injEq, Prod.mk.injEq] at h
   obtain ⟨rfl, rfl⟩ := h
   simp [hn]
 ·cases h
theorem z2f {t e : TypeId} {b o n c : Nat} {k : IntKind} {i : Nat} (hu : P.underlying t = some (.slice e)) (hi : (P.info? e).isSome = true) (h : i < n) :
  dIndexAddr P t (.slice (some ⟨b, o, none⟩) n c) (.int k (i : Int)) H = some (.val (.pointer (some ⟨b, o + i * P.cellsOf e, none⟩)) H) := by
 have h1 : intBetween (.int k (i : Int)) (n - 1) = some i := by
  unfold intBetween
  simp only
  rw [if_pos ⟨by omega, by omega⟩]; simp
 have h2 : Nat.beq n 0 = false := by rw [← Bool.not_eq_true, Nat.beq_eq]; omega
 simp only [dIndexAddr, hu, h1, h2, hi]
theorem z2b {α : Type} (a : α) : pureRun P (pure a : Sem α) = some a := rfl
theorem z0j {t : TypeId} {d : TypeDesc} (h : P.underlying t = some d) : pureRun P (underlying t) = some d := by
 unfold underlying
 rw [z0g]
 show (pureRun P (match P.underlying t with | some d => pure d | none => stuck "no such type")) = _
 rw [h]; rfl
def dOut (fl : Bool) (r : Option Next) (H : Heap) : Option Dr :=
 match fl, r with
 | true, some (.value v) => match flat v with
  | true => some (.val v H)
  | false => none
 | _, _ => none
theorem z5c {o : Oper} : dflat P o ρ H = dOut (allFlat ρ o) (pureRun P (execOp ρ o)) H := rfl
def dLn (P : Program) (t ty : TypeId) (v : Value) (H : Heap) : Option Dr :=
 match v with
 | .slice _ n _ => match P.underlying t with
  | some (.slice _) => some (.val (goInt n) H)
  | _ => none
 | .map (some r) => match P.underlying t, H.get r with
  | some (.map _ _), some (.map es _) => some (.val (goInt es.length) H)
  | _, _ => none
 | v => dOut (flat v && true) (pureRun P (do let r ← Builtin.len_ #[t] ty #[v]; pure (Next.value r))) H
theorem zhp {x : Operand} {t : TypeId} : dop P ⟨d, .call ⟨.builtin .len, #[x], #[t]⟩, ty, pos, af, g⟩ ρ H = dLn P t ty (ρ x) H := by
 have e : dflat P ⟨d, .call ⟨.builtin .len, #[x], #[t]⟩, ty, pos, af, g⟩ ρ H = dOut (flat (ρ x) && true) (pureRun P (do let r ← Builtin.len_ #[t] ty #[ρ x]; pure (Next.value r))) H := by
  rw [z5c, BigFrame.execOp_builtin, BigFrame.builtin_len]
  simp [allFlat, Op.operands, Call.operands]
 simp only [dop, e]
 unfold dLn
 cases h : ρ x with
 | slice a n c => rfl
 | map r => cases r <;> rfl
 | _ => rfl
theorem z1a {t ty e : TypeId} {a : Option Addr} {n c : Nat} (hu : P.underlying t = some (.slice e)) : dLn P t ty (.slice a n c) H = some (.val (.int .i64 n) H) := by
 simp only [dLn, hu, goInt]
theorem z5x {t ty : TypeId} {s : ByteArray} (hu : P.underlying t = some .string) : dLn P t ty (.string s) H = some (.val (.int .i64 s.size) H) := by
 simp only [dLn, z0g, Builtin.len_]
 simp [z0g, z0j hu, z2b, dOut, flat, goInt]
theorem ze5 {t : TypeId} {x y : Operand} {k : IntKind} {a b : Int} : dBin P .gtr t x y (.int k a) (.int k b) H = some (.val (.bool (decide (a > b))) H) := by
 simp [dBin, dnil, flat, eqGuard, binOp, Op.intCmp, Sem.bind]; rfl
theorem ze6 {t : TypeId} {x y : Operand} {k : IntKind} {a b : Int} : dBin P .sub t x y (.int k a) (.int k b) H = some (.val (.int k (k.wrap (a - b))) H) := by
 simp [dBin, dnil, flat, eqGuard, binOp, Op.intArith, Sem.bind]; rfl
theorem ze7 {t : TypeId} {x y : Operand} {k : IntKind} {a b : Int} : dBin P .mul t x y (.int k a) (.int k b) H = some (.val (.int k (k.wrap (a * b))) H) := by
 simp [dBin, dnil, flat, eqGuard, binOp, Op.intArith, Sem.bind]; rfl
theorem ze8 {t : TypeId} {x y : Operand} {k : IntKind} {a b : Int} : dBin P .leq t x y (.int k a) (.int k b) H = some (.val (.bool (decide (a ≤ b))) H) := by
 simp [dBin, dnil, flat, eqGuard, binOp, Op.intCmp, Sem.bind]; rfl
theorem ze9 {t : TypeId} {x y : Operand} {k : IntKind} {a b : Int} : dBin P .geq t x y (.int k a) (.int k b) H = some (.val (.bool (decide (a ≥ b))) H) := by
 simp [dBin, dnil, flat, eqGuard, binOp, Op.intCmp, Sem.bind]; rfl
theorem zea {t : TypeId} {x y : Operand} {k : IntKind} {a b : Int} : dBin P .eql t x y (.int k a) (.int k b) H = some (.val (.bool (a == b)) H) := by
 simp [dBin, dnil, flat, eqGuard, binOp, Op.intCmp, Sem.bind]; rfl
theorem zeb {t : TypeId} {x y : Operand} {k : IntKind} {a b : Int} : dBin P .neq t x y (.int k a) (.int k b) H = some (.val (.bool (a != b)) H) := by
 simp [dBin, dnil, flat, eqGuard, binOp, Op.intCmp, Sem.bind]; rfl
theorem z1j {t : TypeId} {x y : Operand} {a b : ByteArray} : dBin P .eql t x y (.string a) (.string b) H = some (.val (.bool (a.toList == b.toList)) H) := by
 simp [dBin, dnil, flat, eqGuard, binOp, Op.stringOp, Sem.bind]; rfl
theorem z2c {t : TypeId} {x y : Operand} {a b : ByteArray} : dBin P .neq t x y (.string a) (.string b) H = some (.val (.bool (!(a.toList == b.toList))) H) := by
 simp [dBin, dnil, flat, eqGuard, binOp, Op.stringOp, Sem.bind]; rfl
def dUn (P : Program) (op : UnOp) (v : Value) (H : Heap) : Option Dr := dOut (flat v && true) (pureRun P (do let r ← Op.unary op v; pure (Next.value r))) H
theorem zlk {op : UnOp} {t : TypeId} {a : Operand} : dop P ⟨d, .unOp op t a, ty, pos, af, g⟩ ρ H = dUn P op (ρ a) H := _root_.id rfl
theorem zll {b : Bool} : dUn P .not (.bool b) H = some (.val (.bool (!b)) H) := _root_.id rfl
def dExt (t : Value) (i : Nat) (H : Heap) : Option Dr := match t with | .tuple vs => (vs.toList[i]?).map (.val · H) | _ => none
theorem z7a {a : Operand} {i : Nat} : dop P ⟨d, .extract a i, ty, pos, af, g⟩ ρ H = dExt (ρ a) i H := _root_.id rfl
theorem zlm {a : Value} {l : List Value} : dExt (.tuple ⟨a :: l⟩) 0 H = some (.val a H) := _root_.id rfl
theorem zln {a b : Value} {l : List Value} : dExt (.tuple ⟨a :: b :: l⟩) 1 H = some (.val b H) := _root_.id rfl
theorem zlo {a b c : Value} {l : List Value} : dExt (.tuple ⟨a :: b :: c :: l⟩) 2 H = some (.val c H) := _root_.id rfl
def dMin (P : Program) (ats : Array TypeId) (ty : TypeId) (v w : Value) (H : Heap) : Option Dr := dOut (flat v && (flat w && true)) (pureRun P (do let r ← Builtin.min_ ats ty #[v, w]; pure (Next.value r))) H
theorem zmv {ats : Array TypeId} {a b : Operand} : dop P ⟨d, .call ⟨.builtin .min, #[a, b], ats⟩, ty, pos, af, g⟩ ρ H = dMin P ats ty (ρ a) (ρ b) H := by
 have e : dop P ⟨d, .call ⟨.builtin .min, #[a, b], ats⟩, ty, pos, af, g⟩ ρ H = dflat P ⟨d, .call ⟨.builtin .min, #[a, b], ats⟩, ty, pos, af, g⟩ ρ H := rfl
 rw [e, z5c, BigFrame.execOp_builtin, BigFrame.builtin_min]
 simp [allFlat, Op.operands, Call.operands, dMin]
theorem zmw {ats : Array TypeId} {k k' : IntKind} {a b : Int} : dMin P ats ty (.int k a) (.int k' b) H = some (.val (.int k (if b < a then b else a)) H) := by
 unfold dMin
 simp [Builtin.min_, Builtin.min2, flat, dOut]; rfl
theorem z0c {n : Int} (h1 : -9223372036854775808 ≤ n) (h2 : n ≤ 9223372036854775807) : IntKind.i64.wrap n = n := by
 exact IntWalk.i64_in _ ⟨h1, h2⟩
end
end Go.Hb
end

section
namespace Go.Hb
open Go Go.RowKit
section
variable {P : Program} {ok : Ok} {x : Ctx} {ops : Array Oper} {os : List Oper} {tm : Tr Value} {ds : List Deferred} {H H' : Heap} {K : Tr Value → List Deferred → Heap → Prop} {w : Bool}
theorem z04 {c : Code} {st : St} {Q : Ex → St → Prop} (h : EvC P ok x c st Q) : EvC P ok x c st Q := h
theorem z0q {d : Option Tmp} {r : Option Dr} (h : LX P ok x ops d os tm ds H K r) : LX P ok x ops d os tm ds H K r := h
theorem z24 {fn : Func} {KK : Value → Heap → Prop} (h : fn.results.toList = []) (hk : KK (.tuple ⟨[]⟩) H) : Ex.leave P ok fn KK .normal ⟨tm, [], H⟩ :=
 EvV.now (v := .tuple ⟨[]⟩) (by simp only [dres, h, dresL]) hk
theorem z2p {fn : Func} {r q : Tmp} {v u : Value} {KK : Value → Heap → Prop} (h : fn.results.toList = [.tmp r, .tmp q]) (hv : tm.get r = some v) (hu : tm.get q = some u) (hk : KK (.tuple ⟨[v, u]⟩) H) : Ex.leave P ok fn KK .ret ⟨tm, [], H⟩ :=
 EvV.now (v := .tuple ⟨[v, u]⟩) (by rw [zkf h, hv, hu]; rfl) hk
end
section
variable {P : Program} {d : Option Tmp} {ty : TypeId} {pos : String} {af : Array Edge} {g : Option (Nat × Bool)} {ρ : Operand → Value} {H : Heap}
theorem z8r {o : Oper} {v : Value} : sameOn P o ρ v [] = true := by unfold sameOn; rfl
theorem z3u {o n : Nat} {cs : List Value} {e : TypeId} : (H.new (some (.row cs e))).load ⟨H.next, o, none⟩ n = cutC cs o n := by rw [z9r, if_pos rfl]
theorem z1u {b : Nat} {B : Option Blk} (h : b < H.next) : (H.new B).get b = H.get b := by rw [get_new, if_neg (by omega)]
theorem z0p {B : Option Blk} : (H.new B).get H.next = B := by rw [get_new, if_pos rfl]
theorem z37 {b i : Nat} {B : Option Blk} (h : b ≠ i) : (H.put i B).get b = H.get b := by rw [get_put, if_neg h]
theorem z7b {b : Nat} {B : Option Blk} : (H.put b B).get b = B := by rw [get_put, if_pos rfl]
theorem z2q {t : TypeId} {n : Nat} (h : isAgg? P t = some true) (hn : P.cellsOf t = n) {ad : Addr} : dLoad P t (.pointer (some ad)) H = dloadA n (H.load ad n) H := by rw [z1i h, hn]
theorem z1p {t : TypeId} {n : Nat} (h : (P.info? t).isSome = true) (hn : P.cellsOf t = n) {b o : Nat} {cs : List Value} :
  dStore P t (.pointer (some ⟨b, o, none⟩)) (.agg ⟨cs⟩) H = dStoreIf (Nat.beq cs.length n) ⟨b, o, none⟩ cs H (H.get b) := by rw [z5w h, hn]
theorem z7c {t : TypeId} {b o : Nat} {a : Option Nat} (h : (P.info? t).isSome = true) (h1 : P.cellsOf t = 1) : dStore P t (.pointer (some ⟨b, o, none⟩)) (.map a) H = dStoreB ⟨b, o, none⟩ [.map a] H (H.get b) := z2k h h1 rfl
theorem z9s {t u : TypeId} {b o : Nat} {v : Value} (h : (P.info? t).isSome = true) (h1 : P.cellsOf t = 1) : dStore P t (.pointer (some ⟨b, o, none⟩)) (.iface u v) H = dStoreB ⟨b, o, none⟩ [.iface u v] H (H.get b) := z2k h h1 rfl
theorem z6l {t : TypeId} {b o : Nat} (h : (P.info? t).isSome = true) (h1 : P.cellsOf t = 1) : dStore P t (.pointer (some ⟨b, o, none⟩)) .nilIface H = dStoreB ⟨b, o, none⟩ [.nilIface] H (H.get b) := z2k h h1 rfl
def dGet1 (v : Option Value) (H : Heap) : Option Dr := v.map (.val · H)
theorem z8s {v : Value} : dGet1 (some v) H = some (.val v H) := _root_.id rfl
theorem z14 {t e : TypeId} {b o n c s : Nat} {k : IntKind} {i : Nat} (hu : P.underlying t = some (.slice e)) (hi : (P.info? e).isSome = true) (hs : P.cellsOf e = s) (h : i < n) :
  dIndexAddr P t (.slice (some ⟨b, o, none⟩) n c) (.int k (i : Int)) H = some (.val (.pointer (some ⟨b, o + i * s, none⟩)) H) := by rw [z2f hu hi h, hs]
theorem z4m {t e : TypeId} {b o n c s : Nat} {k : IntKind} {i : Int} (hu : P.underlying t = some (.slice e)) (hi : (P.info? e).isSome = true) (hs : P.cellsOf e = s) (h0 : 0 ≤ i) (h : i < n) :
  dIndexAddr P t (.slice (some ⟨b, o, none⟩) n c) (.int k i) H = some (.val (.pointer (some ⟨b, o + i.toNat * s, none⟩)) H) := by
 obtain ⟨j, rfl⟩ := Int.eq_ofNat_of_zero_le h0
 rw [z14 hu hi hs (by omega)]; rfl
def layC (pl : List (Nat × Nat)) : List Value → List (Nat × List Value) → Option (List Value)
 | cells, [] => some cells
 | cells, (i, v) :: rest => match pl[i]? with
  | some (off, size) => if v.length = size ∧ off + v.length ≤ cells.length then layC pl (splice cells off v) rest else none
  | none => none
theorem zec : ∀ (vs : List Value) (off j : Nat) (cells : Array Value), off + j + vs.length ≤ cells.size →
  ((vs.zipIdx j).foldl (fun cs (p : Value × Nat) => cs.setIfInBounds (off + p.2) p.1) cells).toList = splice cells.toList (off + j) vs
 | [], off, j, cells, h => by
  rw [z18 _ _ _ (by simp at h ⊢; omega)]
  simp
 | v :: vs, off, j, cells, h => by
  have h' : off + j + (vs.length + 1) ≤ cells.size := by simpa using h
  rw [List.zipIdx_cons, List.foldl_cons]
  have ih := zec vs off (j + 1) (cells.setIfInBounds (off + j) v) (by simp; omega)
  rw [ih, z18 _ _ _ (by simp; omega), z18 _ _ _ (by simp; omega)]
  simp only [Array.toList_setIfInBounds, List.length_cons]
  rw [List.set_eq_take_append_cons_drop, if_pos (by simp; omega)]
  apply List.ext_getElem?
  intro k
  simp only [List.getElem?_append, List.getElem?_take, List.getElem?_drop, List.length_take, List.length_append, List.length_cons, List.length_drop, Array.length_toList, List.getElem?_cons]
  grind
theorem z9t {place : Nat → Option (Nat × Nat)} {pl : List (Nat × Nat)} (hp : ∀ i, place i = pl[i]?) : ∀ (parts : List (Nat × Value)) (cells : Array Value), (Instr.fill place cells parts).map (·.toList) = layC pl cells.toList (parts.map fun p => (p.1, p.2.cells.toList))
 | [], cells => rfl
 | (i, v) :: rest, cells => by
  rw [Instr.fill, hp i, List.map_cons, layC]
  cases hi : pl[i]? with
  | none => rfl
  | some os =>
   obtain ⟨off, size⟩ := os
   simp only
   by_cases hc : v.cells.size = size ∧ off + v.cells.size ≤ cells.size
   ·obtain ⟨h1, h2⟩ := hc
    rw [if_neg (by simp [h1]; omega), if_pos ⟨by simpa using h1, by simpa using h2⟩, z9t hp rest]
    congr 1
    have := zec v.cells.toList off 0 cells (by simpa using h2)
    rw [← Array.foldl_toList, Array.toList_zipIdx]
    exact this
   ·rw [if_pos (by
     simp
     by_cases h : v.cells.size = size
     ·exact .inr (by omega)
     ·exact .inl h), if_neg (by simpa using hc)]
    rfl
def bdPl (P : Program) (t : TypeId) : Option (List (Nat × Nat)) :=
 match P.underlying t with
 | some (.struct fs) => (pureRun P (fs.mapM fun f => do pure (f.offset, ← sizeOf f.type))).map (·.toList)
 | _ => none
def dBuild (P : Program) (t : TypeId) (vs : List (Nat × Value)) (H : Heap) : Option Dr :=
 if vs.all (fun p => p.2.cells.toList.all one) && zflat P t then
  match pureRun P (Instr.build t ⟨vs⟩) with
  | some v => some (.val v H)
  | none => none
 else none
theorem zb4 {t : TypeId} {parts : Array (Nat × Operand)} : dop P ⟨d, .build t parts, ty, pos, af, g⟩ ρ H = dBuild P t (parts.toList.map fun p => (p.1, ρ p.2)) H := by
 have e1 : (parts.toList.all fun p => (ρ p.2).cells.toList.all one) = ((parts.toList.map fun p => (p.1, ρ p.2)).all fun p => p.2.cells.toList.all one) := by rw [List.all_map]; rfl
 have e2 : (parts.map fun (i, x) => (i, ρ x)) = ⟨parts.toList.map fun p => (p.1, ρ p.2)⟩ := by
  apply Array.ext'
  simp
 simp only [dop, dBuild, e1, e2]
 rfl
def dBd (c : Bool) (r : Option (List Value)) (H : Heap) : Option Dr := match c, r with | true, some cs => some (.val (.agg ⟨cs⟩) H) | _, _ => none
theorem zed {cs : List Value} : dBd true (some cs) H = some (.val (.agg ⟨cs⟩) H) := _root_.id rfl
theorem z38 {t : TypeId} {pl : List (Nat × Nat)} {zs : List Value} {vs : List (Nat × Value)} (hp : bdPl P t = some pl) (hz : zerosOf P t = some zs) :
  dBuild P t vs H = dBd (vs.all fun p => p.2.cells.toList.all one) (layC pl zs (vs.map fun p => (p.1, p.2.cells.toList))) H := by
 unfold zerosOf at hz
 split at hz
 ·rename_i z hzv
  split at hz
  ·rename_i hfl
   cases hz
   rw [Bool.and_eq_true] at hfl
   have hzf : zflat P t = true := by unfold zflat; rw [hzv]; exact hfl.1
   unfold dBuild
   rw [hzf, Bool.and_true]
   cases hall : (vs.all fun p => p.2.cells.toList.all one) with
   | false => rfl
   | true =>
    rw [if_pos rfl]
    unfold bdPl at hp
    split at hp
    ·rename_i fs hu
     cases hm : pureRun P (fs.mapM fun f => do pure (f.offset, ← sizeOf f.type)) with
     | none => rw [hm] at hp; cases hp
     | some places =>
      rw [hm] at hp
      cases hp
      have hf := z9t (place := (places[·]?)) (pl := places.toList) (fun i => by simp) vs z.cells
      simp only [Instr.build, z0g, hzv, z0j hu, Option.bind_some, hm]
      rw [← hf]
      cases Instr.fill (places[·]?) z.cells vs with
      | none => rfl
      | some cells => rfl
    ·cases hp
  ·cases hz
 ·cases hz
def dBuildS (P : Program) (t : TypeId) (len : Nat) (vs : List (Nat × Value)) (H : Heap) : Option Dr :=
 match P.underlying t with
 | some (.slice e) => match P.info? e with
  | some i => match i.zero with
   | some z =>
    let size := i.size
    if len ≤ most ∧ len * size ≤ most ∧ flat z = true ∧ z.cells.size = size ∧ z.cells.toList.all one = true ∧ vs.all (fun p => p.2.cells.toList.all one) = true then
     match Instr.fill (fun i => some (i * size, size)) ((Array.range (len * size)).map (z.cells[· % z.cells.size]!)) vs with
     | some cells => some (.val (.slice (some ⟨H.next, 0, none⟩) len len) (H.new (some (.row cells.toList e))))
     | none => none
    else none
   | none => none
  | none => none
 | _ => none
theorem z4n {t : TypeId} {len : Nat} {parts : Array (Nat × Operand)} : dop P ⟨d, .buildSlice t len parts, ty, pos, af, g⟩ ρ H = dBuildS P t len (parts.toList.map fun p => (p.1, ρ p.2)) H := by
 have e1 : (parts.toList.all fun p => (ρ p.2).cells.toList.all one) = ((parts.toList.map fun p => (p.1, ρ p.2)).all fun p => p.2.cells.toList.all one) := by rw [List.all_map]; rfl
 simp only [dop, dBuildS, e1]
 rfl
def bsZs (P : Program) (t : TypeId) (len : Nat) : Option (TypeId × Nat × List Value) :=
 match P.underlying t with
 | some (.slice e) => match P.info? e with
  | some i => match i.zero with
   | some z => if len ≤ most ∧ len * i.size ≤ most ∧ flat z = true ∧ z.cells.size = i.size ∧ z.cells.toList.all one = true then some (e, i.size, (List.range (len * i.size)).map (z.cells[· % z.cells.size]!)) else none
   | none => none
  | none => none
 | _ => none
def placesN (size : Nat) : Nat → Nat → List (Nat × Nat)
 | 0, _ => []
 | n + 1, o => (o, size) :: placesN size n (o + size)
theorem z7d (size : Nat) : ∀ (n o i : Nat), (placesN size n o)[i]? = if i < n then some (o + i * size, size) else none
 | 0, o, i => by simp [placesN]
 | n + 1, o, 0 => by simp [placesN]
 | n + 1, o, i + 1 => by
  rw [placesN, List.getElem?_cons_succ, z7d size n (o + size) i]
  by_cases h : i < n
  ·rw [if_pos h, if_pos (by omega), Nat.succ_mul]; congr 2; omega
  ·rw [if_neg h, if_neg (by omega)]
def dBs (e : TypeId) (n : Nat) (c : Bool) (r : Option (List Value)) (H : Heap) : Option Dr := match c, r with | true, some cs => some (.val (.slice (some ⟨H.next, 0, none⟩) n n) (H.new (some (.row cs e)))) | _, _ => none
theorem zee {e : TypeId} {n : Nat} {cs : List Value} : dBs e n true (some cs) H = some (.val (.slice (some ⟨H.next, 0, none⟩) n n) (H.new (some (.row cs e)))) := _root_.id rfl
theorem zhq {size n : Nat} : ∀ (parts : List (Nat × Value)) (cells : Array Value), parts.all (fun p => Nat.blt p.1 n) = true →
  Instr.fill (fun i => some (i * size, size)) cells parts = Instr.fill (fun i => (placesN size n 0)[i]?) cells parts
 | [], cells, _ => rfl
 | (i, v) :: rest, cells, h => by
  simp only [List.all_cons, Bool.and_eq_true] at h
  have hi : i < n := of_eq_true (by rw [← Nat.blt_eq, h.1]; simp)
  rw [Instr.fill, Instr.fill, z7d, if_pos hi, Nat.zero_add]
  simp only
  split
  ·rfl
  ·exact zhq rest _ h.2
theorem z1q {t e : TypeId} {len size : Nat} {zs : List Value} {vs : List (Nat × Value)} (h : bsZs P t len = some (e, size, zs)) (hv : vs.all (fun p => Nat.blt p.1 len) = true) :
  dBuildS P t len vs H = dBs e len (vs.all fun p => p.2.cells.toList.all one) (layC (placesN size len 0) zs (vs.map fun p => (p.1, p.2.cells.toList))) H := by
 unfold bsZs at h
 split at h
 ·rename_i e' h1
  split at h
  ·rename_i i h2
   split at h
   ·rename_i z h3
    split at h
    ·rename_i hc
     obtain ⟨h5, h6, h7, h8, h9⟩ := hc
     simp only [Option.some.injEq, Prod.mk.injEq] at h
     obtain ⟨rfl, rfl, rfl⟩ := h
     simp only [dBuildS, h1, h2, h3]
     cases hall : (vs.all fun p => p.2.cells.toList.all one) with
     | false => rw [if_neg (by simp)]; rfl
     | true =>
      rw [if_pos ⟨h5, h6, h7, h8, h9, rfl⟩, zhq vs _ hv]
      have hf := z9t (place := ((placesN i.size len 0)[·]?)) (pl := placesN i.size len 0) (fun i => rfl) vs ((Array.range (len * i.size)).map (z.cells[· % z.cells.size]!))
      rw [Array.toList_map, Array.toList_range] at hf
      rw [← hf]
      cases Instr.fill ((placesN i.size len 0)[·]?) ((Array.range (len * i.size)).map (z.cells[· % z.cells.size]!)) vs with
      | none => rfl
      | some cells => rfl
    ·cases h
   ·cases h
  ·cases h
 ·cases h
def dSl (P : Program) (t : TypeId) (v : Value) (lo hi mx : Option Value) (H : Heap) : Option Dr :=
 match v with
 | .string s => dOut ((lo.toList ++ (hi.toList ++ mx.toList)).all flat) (pureRun P (do let r ← Instr.sliceAt t (.string s) lo hi mx; pure (Next.value r))) H
 | v => dslice P t v lo hi mx H
theorem zg8 {t : TypeId} {s : ByteArray} {k : IntKind} {l : Nat} (hu : P.underlying t = some .string) (h : l ≤ s.size) : dSl P t (.string s) (some (.int k (l : Int))) none none H = some (.val (.string (s.extract l s.size)) H) := by
 have hb : (0 : Int) ≤ (l : Int) ∧ (l : Int) ≤ (s.size : Int) := ⟨by omega, by omega⟩
 simp only [dSl, Instr.sliceAt, Instr.slice, z0g, z0j hu, Option.bind_some]
 simp [Instr.sliceBounds, Instr.sliceBound, asIntOf, z2b, hb, h, dOut, flat]
theorem z2x {k : IntKind} {n m : Nat} (h : n ≤ m) : intBetween (.int k (n : Int)) m = some n := by
 unfold intBetween
 simp only
 rw [if_pos ⟨by omega, by omega⟩]; simp
def slcOk (P : Program) (t e : TypeId) (s : Nat) : Prop := P.underlying t = some (.slice e) ∧ (P.info? e).isSome = true ∧ P.cellsOf e = s
theorem zo8 {t e : TypeId} {s : Nat} {a : Option Addr} {n c m : Nat} {k : IntKind} (h : slcOk P t e s) (hm : m ≤ c) : dSl P t (.slice a n c) none (some (.int k (m : Int))) none H = some (.val (.slice a m c) H) := by
 obtain ⟨h1, h2, _⟩ := h
 obtain ⟨i, hi⟩ := Option.isSome_iff_exists.1 h2
 simp only [dSl, dslice, h1, hi, bound, z2x hm]
 rfl
theorem zb5 {t : TypeId} {v : Operand} {lo hi mx : Option Operand} : dop P ⟨d, .slice t v lo hi mx, ty, pos, af, g⟩ ρ H = dSl P t (ρ v) (lo.map ρ) (hi.map ρ) (mx.map ρ) H := by
 cases h : ρ v with
 | string s =>
  have e : dop P ⟨d, .slice t v lo hi mx, ty, pos, af, g⟩ ρ H = dflat P ⟨d, .slice t v lo hi mx, ty, pos, af, g⟩ ρ H := by simp only [dop, h]
  rw [e, z5c]
  have e1 : allFlat ρ ⟨d, .slice t v lo hi mx, ty, pos, af, g⟩ = (((lo.map ρ).toList ++ ((hi.map ρ).toList ++ (mx.map ρ).toList)).all flat) := by
   unfold allFlat
   cases lo <;> cases hi <;> cases mx <;> simp [Op.operands, h, flat]
  have e2 : execOp ρ ⟨d, .slice t v lo hi mx, ty, pos, af, g⟩ = (do let r ← Instr.sliceAt t (.string s) (lo.map ρ) (hi.map ρ) (mx.map ρ); pure (Next.value r)) := by rw [← h]; rfl
  rw [e1, e2]; rfl
 | _ => simp only [dop, h, dSl]
def dAp (P : Program) (ts : Array TypeId) (s v : Value) (H : Heap) : Option Dr :=
 match ts.toList with
 | [t, xt] => match dzeros P t xt s v H with
  | some r => some r
  | none => dappend P ts s v H
 | _ => none
theorem z8t {s v : Operand} {ts : Array TypeId} : dop P ⟨d, .call ⟨.builtin .append, #[s, v], ts⟩, ty, pos, af, g⟩ ρ H = dAp P ts (ρ s) (ρ v) H := _root_.id rfl
def apSz (P : Program) (t : TypeId) : Option (TypeId × Nat) :=
 match P.underlying t with
 | some (.slice e) => match P.info? e with
  | some i => if i.bytes ≤ 4096 ∧ 0 < i.size ∧ zsize i = i.size then some (e, i.size) else none
  | none => none
 | _ => none
def apOk (P : Program) (t e : TypeId) (s : Nat) : Prop := ∃ i, P.underlying t = some (.slice e) ∧ P.info? e = some i ∧ i.size = s ∧ i.bytes ≤ 4096 ∧ 0 < s ∧ zsize i = s
theorem z7e {t e : TypeId} {s : Nat} (h : apSz P t = some (e, s)) : apOk P t e s := by
 unfold apSz at h
 split at h
 ·rename_i e' h1
  split at h
  ·rename_i i h2
   split at h
   ·rename_i hc
    simp only [Option.some.injEq, Prod.mk.injEq] at h
    obtain ⟨rfl, rfl⟩ := h
    exact ⟨i, h1, h2, rfl, hc.1, hc.2.1, hc.2.2⟩
   ·cases h
  ·cases h
 ·cases h
theorem z6e {t xt : TypeId} {s : Value} {a : Option Addr} {n c : Nat} : dzeros P t xt s (.slice a n c) H = none := by
 unfold dzeros
 split
 ·rename_i h; simp [intBetween] at h
 ·rfl
theorem z5y {t e : TypeId} {s : Nat} {ad : Addr} {m c' : Nat} {news : List Value} (h : apOk P t e s) (hm : 0 < m) (hmost : m ≤ most) (hl : H.load ad (m * s) = some news) (hone : news.all one = true) :
  dAp P #[t, t] (.slice none 0 0) (.slice (some ad) m c') H = some (.val (.slice (some ⟨H.next, 0, none⟩) m m) (H.new (some (.row news e)))) := by
 obtain ⟨i, h1, h2, h3, h4, h5, h6⟩ := h
 subst h3
 have e0 : Nat.beq m 0 = false := by rw [← Bool.not_eq_true, Nat.beq_eq]; omega
 have hlen : news.length = m * i.size := by
  unfold Heap.load at hl
  split at hl
  ·simp only at hl
   split at hl
   ·rename_i hh; cases hl; rw [Nat.beq_eq] at hh; exact hh
   ·cases hl
  ·cases hl
 simp only [dAp, z6e, dappend, h1, h2, Nat.beq_refl, e0, dsource, hl]
 simp [hmost, h4, h5, h6, hlen, hone]
theorem z5z {t e : TypeId} {s b : Nat} {ad : Addr} {n c m c' : Nat} {cs news : List Value} (h : apOk P t e s) (hm : 0 < m) (hmost : n + m ≤ most) (hl : H.load ad (m * s) = some news) (hone : news.all one = true)
  (hb : H.get b = some (.row cs e)) (hn : n * s ≤ cs.length) (hone' : (cs.take (n * s)).all one = true) :
  dAp P #[t, t] (.slice (some ⟨b, 0, none⟩) n c) (.slice (some ad) m c') H = some (.val (.slice (some ⟨H.next, 0, none⟩) (n + m) (n + m)) ((H.put b none).new (some (.row (cs.take (n * s) ++ news) e)))) := by
 obtain ⟨i, h1, h2, h3, h4, h5, h6⟩ := h
 subst h3
 have e0 : Nat.beq m 0 = false := by rw [← Bool.not_eq_true, Nat.beq_eq]; omega
 have hlen : news.length = m * i.size := by
  unfold Heap.load at hl
  split at hl
  ·simp only at hl
   split at hl
   ·rename_i hh; cases hl; rw [Nat.beq_eq] at hh; exact hh
   ·cases hl
  ·cases hl
 simp only [dAp, z6e, dappend, h1, h2, Nat.beq_refl, e0, dsource, hl, hb]
 simp [hmost, h4, h5, h6, hlen, hone, hn, hone']
def repL (n : Nat) (zs : List Value) : List Value := (List.replicate n zs).flatten
def dMk (P : Program) (t : TypeId) (l c : Value) (H : Heap) : Option Dr :=
 match P.underlying t with
 | some (.slice e) => match P.info? e, intBetween c most with
  | some i, some cap => match i.zero, intBetween l cap with
   | some z, some len =>
    let size := i.size
    if flat z = true ∧ z.cells.size = size ∧ i.bytes ≤ 4096 ∧ z.cells.toList.all one = true then
     some (.val (.slice (some ⟨H.next, 0, none⟩) len cap) (H.new (some (.row ((List.range (cap * size)).map (z.cells[· % z.cells.size]!)) e))))
    else none
   | _, _ => none
  | _, _ => none
 | _ => none
theorem z5d {t : TypeId} {l c : Operand} : dop P ⟨d, .makeSlice t l c, ty, pos, af, g⟩ ρ H = dMk P t (ρ l) (ρ c) H := _root_.id rfl
def mkZs (P : Program) (t : TypeId) : Option (TypeId × List Value) :=
 match P.underlying t with
 | some (.slice e) => match P.info? e with
  | some i => match i.zero with
   | some z => if flat z = true ∧ z.cells.size = i.size ∧ i.bytes ≤ 4096 ∧ z.cells.toList.all one = true ∧ 0 < i.size then some (e, z.cells.toList) else none
   | none => none
  | none => none
 | _ => none
def mkOk (P : Program) (t e : TypeId) (zs : List Value) : Prop := ∃ i z, P.underlying t = some (.slice e) ∧ P.info? e = some i ∧ i.zero = some z ∧ flat z = true ∧ z.cells.size = i.size ∧ i.bytes ≤ 4096 ∧ z.cells.toList.all one = true ∧ z.cells.toList = zs ∧ 0 < i.size
theorem zhr {t e : TypeId} {zs : List Value} (h : mkZs P t = some (e, zs)) : mkOk P t e zs := by
 unfold mkZs at h
 split at h
 ·rename_i e' h1
  split at h
  ·rename_i i h2
   split at h
   ·rename_i z h3
    split at h
    ·rename_i hc
     simp only [Option.some.injEq, Prod.mk.injEq] at h
     obtain ⟨rfl, rfl⟩ := h
     exact ⟨i, z, h1, h2, h3, hc.1, hc.2.1, hc.2.2.1, hc.2.2.2.1, rfl, hc.2.2.2.2⟩
    ·cases h
   ·cases h
  ·cases h
 ·cases h
theorem zb6 {zs : Array Value} (hz : 0 < zs.size) : ∀ n, (List.range (n * zs.size)).map (zs[· % zs.size]!) = repL n zs.toList
 | 0 => by simp [repL]
 | n + 1 => by
  have ih := zb6 hz n
  unfold repL at ih ⊢
  rw [Nat.succ_mul, List.range_add, List.map_append, ih, List.replicate_succ', List.flatten_append]
  congr 1
  simp only [List.map_map, List.flatten_cons, List.flatten_nil, List.append_nil]
  apply List.ext_getElem?
  intro k
  by_cases hk : k < zs.size
  ·simp [hk, Nat.add_mod, Nat.mod_eq_of_lt hk]
  ·simp [hk]
theorem z60 {t e : TypeId} {zs : List Value} {n : Nat} {k k' : IntKind} (h : mkOk P t e zs) (hn : n ≤ most) : dMk P t (.int k (n : Int)) (.int k' (n : Int)) H = some (.val (.slice (some ⟨H.next, 0, none⟩) n n) (H.new (some (.row (repL n zs) e)))) := by
 obtain ⟨i, z, h1, h2, h3, h4, h5, h6, h7, h8, h9⟩ := h
 subst h8
 simp only [dMk, h1, h2, h3, z2x hn, z2x (Nat.le_refl n)]
 rw [if_pos ⟨h4, h5, h6, h7⟩, ← h5, zb6 (by omega)]
theorem z3j {n : Nat} {zs : List Value} : (repL n zs).length = n * zs.length := by simp [repL]
theorem zef {n : Nat} {v : Value} : repL n [v] = List.replicate n v := by
 unfold repL
 induction n with
 | zero => rfl
 | succ n ih => rw [List.replicate_succ, List.flatten_cons, ih, List.replicate_succ]; rfl
def dCp (P : Program) (ts : Array TypeId) (a b : Value) (H : Heap) : Option Dr := dcopy P ts a b H
theorem zeg {a b : Operand} {ts : Array TypeId} : dop P ⟨d, .call ⟨.builtin .copy, #[a, b], ts⟩, ty, pos, af, g⟩ ρ H = dCp P ts (ρ a) (ρ b) H := _root_.id rfl
def dClr (P : Program) (ts : Array TypeId) (a : Value) (H : Heap) : Option Dr := dclear P ts a H
theorem z6f {f : FuncId} {a b : Array Operand} : dop P ⟨d, .makeFunc (.func f) a b, ty, pos, af, g⟩ ρ H = some (.val (.func (.func f) (a.map ρ) (b.map ρ)) H) := _root_.id rfl
def dCallV (P : Program) (o : Oper) (ρ : Operand → Value) (f : Value) (args : List Value) (H : Heap) : Option Dr :=
 match f with
 | .func (.func f) first captured =>
  match dcall1 P f (first.toList ++ args ++ captured.toList) with
  | some r => some r
  | none => dflat P o ρ H
 | .func (.yield l) first _ => some (.yield l (first.toList ++ args))
 | _ => none
theorem z7f {t : Tmp} {args : Array Operand} {ats : Array TypeId} :
  dop P ⟨d, .call ⟨.value (.tmp t), args, ats⟩, ty, pos, af, g⟩ ρ H = dCallV P ⟨d, .call ⟨.value (.tmp t), args, ats⟩, ty, pos, af, g⟩ ρ (ρ (.tmp t)) (args.toList.map ρ) H := by
 simp only [dop, dCallV]
 cases ρ (.tmp t) with
 | func f a b => cases f <;> rfl
 | _ => rfl
theorem z4v {o : Oper} {f : FuncId} {a b : Array Value} {args : List Value} (h : callable P f = true) : dCallV P o ρ (.func (.func f) a b) args H = some (.call f (a.toList ++ args ++ b.toList)) := by
 unfold callable at h
 simp only [dCallV]
 cases hf : P.funcs[f]? with
 | none => rw [hf] at h; cases h
 | some fn =>
  rw [hf] at h
  simp only at h
  simp [dcall1, hf, h]
end
end Go.Hb
end

section
namespace Go.Hb
open Go Go.RowKit
section
variable {P : Program} {H : Heap} {ρ : Operand → Value} {d : Option Tmp} {ty : TypeId} {pos : String} {af : Array Edge} {g : Option (Nat × Bool)}
def byteAt (s : ByteArray) (i : Nat) : Nat := (s.data.toList.getD i 0).toNat
theorem zb7 (s : ByteArray) (i : Nat) : byteAt s i < 256 := UInt8.toNat_lt _
theorem zg9 (s : ByteArray) (i : Nat) (h : i < s.size) : byteAt s i = (s[i]'h).toNat := by
 have h' : i < s.data.toList.length := by simpa using h
 unfold byteAt
 rw [List.getD_eq_getElem?_getD, List.getElem?_eq_getElem h']
 rfl
def dIdx (P : Program) (t : TypeId) (v i : Value) (H : Heap) : Option Dr :=
 match P.underlying t, v with
 | some (.array n e), .agg cs => match intBetween i (n - 1), Nat.beq n 0 with
  | some i, false => (dpart P e cs (i * P.cellsOf e)).map (.val · H)
  | _, _ => none
 | _, v => dOut (flat v && (flat i && true)) (pureRun P (do let r ← Instr.index t v i; pure (Next.value r))) H
theorem zb8 {t : TypeId} {x i : Operand} : dop P ⟨d, .index t x i, ty, pos, af, g⟩ ρ H = dIdx P t (ρ x) (ρ i) H := by
 have e : dflat P ⟨d, .index t x i, ty, pos, af, g⟩ ρ H = dOut (flat (ρ x) && (flat (ρ i) && true)) (pureRun P (do let r ← Instr.index t (ρ x) (ρ i); pure (Next.value r))) H := rfl
 show (match P.underlying t, ρ x with | some (.array n e), .agg cs => _ | _, _ => _) = _
 rw [e]
 unfold dIdx
 split <;> rfl
theorem zd2 {t : TypeId} {s : ByteArray} {k : IntKind} {i : Nat} (hu : P.underlying t = some .string) (h : i < s.size) : dIdx P t (.string s) (.int k i) H = some (.val (.int .u8 (s[i]'h).toNat) H) := by
 have hs : s[i]? = some (s[i]'h) := getElem?_pos s i h
 simp only [dIdx, hu, Instr.index]
 simp [z0g, z0j hu, z2b, asIntOf, dOut, flat, hs]
theorem z2r {t : TypeId} {s : ByteArray} {k : IntKind} {i : Nat} (hu : P.underlying t = some .string) (h : i < s.size) : dIdx P t (.string s) (.int k (i : Int)) H = some (.val (.int .u8 (byteAt s i : Nat)) H) := by
 rw [zd2 hu h, zg9 s i h]
theorem zga {t : TypeId} {s : ByteArray} {k : IntKind} {i : Int} (hu : P.underlying t = some .string) (h0 : 0 ≤ i) (h : i < s.size) : dIdx P t (.string s) (.int k i) H = some (.val (.int .u8 (byteAt s i.toNat : Nat)) H) := by
 obtain ⟨j, rfl⟩ := Int.eq_ofNat_of_zero_le h0
 exact z2r hu (by omega)
def dCon (P : Program) (src dst : TypeId) (v : Value) (H : Heap) : Option Dr :=
 match P.underlying src, P.underlying dst, v with
  | some (.slice e), some .string, .slice a n c => match P.underlying e with
   | some (.int .u8) => (dbytes (.slice a n c) H).map (.val · H)
   | _ => none
  | _, some (.slice _), _ => none
  | _, _, v => dOut (flat v && true) (pureRun P (do let r ← convert src dst v; pure (Next.value r))) H
theorem z7g {src dst : TypeId} {x : Operand} : dop P ⟨d, .convert src dst x, ty, pos, af, g⟩ ρ H = dCon P src dst (ρ x) H := by
 have e : dflat P ⟨d, .convert src dst x, ty, pos, af, g⟩ ρ H = dOut (flat (ρ x) && true) (pureRun P (do let r ← convert src dst (ρ x); pure (Next.value r))) H := rfl
 show (match P.underlying src, P.underlying dst, ρ x with | some (.slice e), some .string, .slice a n c => _ | _, some (.slice _), _ => _ | _, _, _ => _) = _
 rw [e]
 unfold dCon
 split <;> rfl
theorem z49 {src dst : TypeId} {k k' k2 : IntKind} {n : Int} (hs : P.underlying src = some (.int k)) (hd : P.underlying dst = some (.int k')) : dCon P src dst (.int k2 n) H = some (.val (.int k' (k'.wrap n)) H) := by
 simp only [dCon, hs, hd]
 simp [z0g, z0j hs, z0j hd, z2b, convert, Conv.intToInt, dOut, flat]
theorem zgb {src dst e : TypeId} {a : Option Addr} {n c : Nat} {v : Value} (hs : P.underlying src = some (.slice e)) (hd : P.underlying dst = some .string) (he : P.underlying e = some (.int .u8)) (h : dbytes (.slice a n c) H = some v) :
  dCon P src dst (.slice a n c) H = some (.val v H) := by
 simp only [dCon, hs, hd, he, h]; rfl
def kAnd (k : IntKind) (a b : Int) : Int := k.wrap (BitVec.ofInt k.bits a &&& BitVec.ofInt k.bits b).toNat
def kOr (k : IntKind) (a b : Int) : Int := k.wrap (BitVec.ofInt k.bits a ||| BitVec.ofInt k.bits b).toNat
theorem bOr {t : TypeId} {x y : Operand} {k : IntKind} {a b : Int} : dBin P .or t x y (.int k a) (.int k b) H = some (.val (.int k (kOr k a b)) H) := by
 simp [dBin, dnil, flat, eqGuard, binOp, Op.intBits, Sem.bind, -BitVec.toNat_or, -BitVec.toNat_ofInt]; rfl
theorem bShr {t : TypeId} {x y : Operand} {k k' : IntKind} {a b : Int} (h : 0 ≤ b) : dBin P .shr t x y (.int k a) (.int k' b) H = some (.val (.int k (a.fdiv (2 ^ (min b.toNat k.bits)))) H) := by
 have hb : ¬ b < 0 := by omega
 simp [dBin, dnil, flat, eqGuard, binOp, Op.shift, hb, Sem.bind]; rfl
theorem z7h {t : TypeId} {x y : Operand} {k' : IntKind} {a : Nat} : dBin P .shr t x y (.int .u32 (a : Int)) (.int k' 16) H = some (.val (.int .u32 ((a / 65536 : Nat) : Int)) H) := by
 rw [bShr (by omega)]
 show some (Dr.val (.int .u32 ((a : Int).fdiv ((65536 : Nat) : Int))) H) = _
 rw [← Int.ofNat_fdiv]
theorem z8u {t : TypeId} {x y : Operand} {k' : IntKind} {a : Nat} : dBin P .shr t x y (.int .u32 (a : Int)) (.int k' 8) H = some (.val (.int .u32 ((a / 256 : Nat) : Int)) H) := by
 rw [bShr (by omega)]
 show some (Dr.val (.int .u32 ((a : Int).fdiv ((256 : Nat) : Int))) H) = _
 rw [← Int.ofNat_fdiv]
theorem zd3 {t : TypeId} {x y : Operand} {k' : IntKind} {a : Nat} : dBin P .shr t x y (.int .u64 (a : Int)) (.int k' 32) H = some (.val (.int .u64 ((a / 4294967296 : Nat) : Int)) H) := by
 rw [bShr (by omega)]
 show some (Dr.val (.int .u64 ((a : Int).fdiv ((4294967296 : Nat) : Int))) H) = _
 rw [← Int.ofNat_fdiv]
theorem bShl {t : TypeId} {x y : Operand} {k k' : IntKind} {a b : Int} (h : 0 ≤ b) : dBin P .shl t x y (.int k a) (.int k' b) H = some (.val (.int k (k.wrap (a * 2 ^ (min b.toNat k.bits)))) H) := by
 have hb : ¬ b < 0 := by omega
 simp [dBin, dnil, flat, eqGuard, binOp, Op.shift, hb, Sem.bind]; rfl
theorem bQuo {t : TypeId} {x y : Operand} {k : IntKind} {a b : Int} (h : b ≠ 0) : dBin P .quo t x y (.int k a) (.int k b) H = some (.val (.int k (k.wrap (a.tdiv b))) H) := by
 simp [dBin, dnil, flat, eqGuard, binOp, Op.intDiv, h, Sem.bind]; rfl
theorem bRem {t : TypeId} {x y : Operand} {k : IntKind} {a b : Int} (h : b ≠ 0) : dBin P .rem t x y (.int k a) (.int k b) H = some (.val (.int k (a.tmod b)) H) := by
 simp [dBin, dnil, flat, eqGuard, binOp, Op.intDiv, h, Sem.bind]; rfl
end
theorem z0r {a b : Int} (h : a = b) : (a == b) = true := by simp [h]
theorem z0t {a b : Int} (h : a ≠ b) : (a == b) = false := by simp [h]
theorem z4k {a b : Int} (h : a ≠ b) : (a != b) = true := by simp [h]
theorem z1m {a b : Int} (h : a = b) : (a != b) = false := by simp [h]
section
open IntWalk
theorem wrap_u32 {n : Int} (h1 : 0 ≤ n) (h2 : n ≤ 4294967295) : IntKind.u32.wrap n = n := u32_in n ⟨h1, h2⟩
theorem z4a {n : Int} (h1 : 0 ≤ n) (h2 : n ≤ 18446744073709551615) : IntKind.u64.wrap n = n := u64_in n ⟨h1, h2⟩
theorem z7i {n : Int} (h1 : 0 ≤ n) (h2 : n ≤ 255) : IntKind.u8.wrap n = n := u8_in n ⟨h1, h2⟩
theorem zb9 (n : Nat) : IntKind.u32.wrap (n : Int) = ((n % 4294967296 : Nat) : Int) := by rw [IntKind.wrap_u32]; omega
end
def bytesV (l : List Nat) : List Value := l.map fun n : Nat => Value.int .u8 (n : Int)
theorem z7j : ∀ l : List Nat, bytesOf (bytesV l) = some (l.map fun (n : Nat) => (n : Int))
 | [] => rfl
 | n :: l => by
  have h := z7j l
  show bytesOf (Value.int .u8 (n : Int) :: bytesV l) = _
  rw [bytesOf, h]; rfl
theorem zd4 (b : ByteArray) (x : UInt8) : (b.push x).data.toList = b.data.toList ++ [x] := by
 cases b; simp [ByteArray.push]
theorem zba : ∀ (l : List Int) (b : ByteArray), (l.foldl (fun r n => r.push (UInt8.ofNat n.toNat)) b).data.toList = b.data.toList ++ l.map fun n => UInt8.ofNat n.toNat
 | [], b => by simp
 | n :: l, b => by
  rw [List.foldl_cons, zba l, zd4]; simp
theorem zgc {H : Heap} {a : Addr} {n c : Nat} {l : List Nat} (hl : H.load a n = some (bytesV l)) (h0 : n ≠ 0) :
  ∃ s : ByteArray, dbytes (.slice (some a) n c) H = some (.string s) ∧ s.data.toList = l.map UInt8.ofNat := by
 have e0 : Nat.beq n 0 = false := by rw [← Bool.not_eq_true, Nat.beq_eq]; exact h0
 refine ⟨_, by simp only [dbytes, e0, hl, z7j, Bool.false_eq_true, if_false]; rfl, ?_⟩
 rw [zba]
 simp only [ByteArray.empty, ByteArray.emptyWithCapacity, List.map_map]
 show [] ++ _ = _
 rw [List.nil_append]
 apply List.map_congr_left
 intro x _
 simp
end Go.Hb
end

section
namespace Go.Hb
open Go Go.RowKit
structure OwnS (H : Heap) (e : TypeId) (s base : Nat) (L : List (List Value)) (b c : Nat) : Prop where
 lo : base ≤ b
 hi : b < H.next
 row : ∃ cs, H.get b = some (.row cs e) ∧ L.length * s ≤ cs.length ∧ cs.take (L.length * s) = L.flatten
 len : L.length ≤ c
 cap : c ≤ maxLen
 sz : ∀ x ∈ L, x.length = s
 all : ∀ x ∈ L, x.all one = true
def RepO (H : Heap) (e : TypeId) (s base : Nat) (L : List (List Value)) (v : Value) : Prop :=
 (L = [] ∧ v = .slice none 0 0) ∨ ∃ b c, OwnS H e s base L b c ∧ v = .slice (some ⟨b, 0, none⟩) L.length c
theorem z4b {s : Nat} : ∀ (L : List (List Value)), (∀ x ∈ L, x.length = s) → L.flatten.length = L.length * s
 | [], _ => by simp
 | x :: L, h => by
  rw [List.flatten_cons, List.length_append, h x (by simp), z4b L fun y hy => h y (List.mem_cons_of_mem _ hy), List.length_cons, Nat.succ_mul]; omega
theorem zd5 {s : Nat} : ∀ (L : List (List Value)) (i : Nat) (x : List Value), (∀ x ∈ L, x.length = s) → L[i]? = some x → (L.flatten.drop (i * s)).take s = x
 | [], i, x, _, h => by simp at h
 | y :: L, 0, x, hs, h => by
  simp at h; subst h
  rw [Nat.zero_mul, List.drop_zero, List.flatten_cons, List.take_append_of_le_length (by rw [hs y (by simp)]; exact Nat.le_refl _), List.take_of_length_le (by rw [hs y (by simp)]; exact Nat.le_refl _)]
 | y :: L, i + 1, x, hs, h => by
  simp at h
  have hy : y.length = s := hs y (by simp)
  rw [List.flatten_cons, Nat.succ_mul, Nat.add_comm, ← List.drop_drop, List.drop_left' hy]
  exact zd5 L i x (fun z hz => hs z (List.mem_cons_of_mem _ hz)) h
theorem zeh {s : Nat} : ∀ (L : List (List Value)) (i : Nat) (x : List Value), (∀ x ∈ L, x.length = s) → x.length = s → i < L.length → splice L.flatten (i * s) x = (L.set i x).flatten
 | [], i, x, _, _, h => by simp at h
 | y :: L, 0, x, hs, hx, h => by
  have hy : y.length = s := hs y (by simp)
  rw [Nat.zero_mul, z3i, List.flatten_cons, List.set_cons_zero, List.flatten_cons, hx, ← hy, List.drop_left]
 | y :: L, i + 1, x, hs, hx, h => by
  have hy : y.length = s := hs y (by simp)
  have hs' : ∀ z ∈ L, z.length = s := fun z hz => hs z (List.mem_cons_of_mem _ hz)
  have hi : i < L.length := by simpa using h
  have hL := z4b L hs'
  have hb : i * s + s ≤ L.length * s := by rw [← Nat.succ_mul]; exact Nat.mul_le_mul_right _ hi
  rw [List.set_cons_succ, List.flatten_cons, List.flatten_cons, ← zeh L i x hs' hx hi, z18 _ _ _ (by rw [List.length_append, hy, hL, Nat.succ_mul]; omega), z18 _ _ _ (by rw [hL]; omega), Nat.succ_mul]
  rw [List.take_append, List.drop_append, hy]
  have e1 : i * s + s - s = i * s := by omega
  have e2 : i * s + s + x.length - s = i * s + x.length := by omega
  rw [e1, e2, List.take_of_length_le (by omega), List.drop_eq_nil_of_le (by omega)]
  simp
theorem zd6 {cs vs : List Value} {o n : Nat} (h : o + vs.length ≤ n) (hn : n ≤ cs.length) : (splice cs o vs).take n = splice (cs.take n) o vs := by
 rw [z18 _ _ _ (by omega), z18 _ _ _ (by rw [List.length_take]; omega)]
 apply List.ext_getElem?
 intro k
 simp only [List.getElem?_append, List.getElem?_take, List.getElem?_drop, List.length_take, List.length_append, List.length_drop]
 grind
theorem z1r {cs vs : List Value} {o : Nat} (h : o + vs.length ≤ cs.length) : (splice cs o vs).length = cs.length := by
 rw [z18 _ _ _ (by omega)]; simp; omega
section
variable {H : Heap} {e : TypeId} {s base b c : Nat} {L : List (List Value)}
theorem OwnS.load (h : OwnS H e s base L b c) {i : Nat} {x : List Value} (hx : L[i]? = some x) : H.load ⟨b, i * s, none⟩ s = some x := by
 obtain ⟨cs, hg, hl, ht⟩ := h.row
 have hi : i < L.length := (List.getElem?_eq_some_iff.1 hx).1
 have hle : i * s + s ≤ L.length * s := by rw [← Nat.succ_mul]; exact Nat.mul_le_mul_right _ hi
 have hc : H.cells b = some cs := by unfold Heap.cells; rw [hg]
 have e1 : (cs.drop (i * s)).take s = x := by
  rw [← zd5 L i x h.sz hx, ← ht, List.drop_take, List.take_take]
  congr 1
  omega
 unfold Heap.load
 simp only [hc, e1]
 rw [if_pos (by rw [Nat.beq_eq]; exact h.sz x (List.mem_of_getElem? hx))]
theorem OwnS.part (h : OwnS H e s base L b c) {i j n : Nat} {x : List Value} (hx : L[i]? = some x) (hj : j + n ≤ s) : H.load ⟨b, i * s + j, none⟩ n = some ((x.drop j).take n) := by
 obtain ⟨cs, hg, hl, ht⟩ := h.row
 have hi : i < L.length := (List.getElem?_eq_some_iff.1 hx).1
 have hle : i * s + s ≤ L.length * s := by rw [← Nat.succ_mul]; exact Nat.mul_le_mul_right _ hi
 have hc : H.cells b = some cs := by unfold Heap.cells; rw [hg]
 have e1 : (cs.drop (i * s + j)).take n = (x.drop j).take n := by
  rw [← zd5 L i x h.sz hx, ← ht, List.drop_take, List.drop_take, List.take_take, List.drop_take, List.take_take, List.drop_drop]
  congr 1
  omega
 have hxl := h.sz x (List.mem_of_getElem? hx)
 unfold Heap.load
 simp only [hc, e1]
 rw [if_pos (by rw [Nat.beq_eq]; simp; omega)]
theorem OwnS.set (h : OwnS H e s base L b c) {cs : List Value} (hg : H.get b = some (.row cs e)) {i : Nat} {y : List Value} (hi : i < L.length) (hy : y.length = s) (ha : y.all one = true) :
  OwnS (H.put b (some (.row (splice cs (i * s) y) e))) e s base (L.set i y) b c := by
 obtain ⟨cs', hg', hl, ht⟩ := h.row
 rw [hg] at hg'; cases hg'
 have hle : i * s + s ≤ L.length * s := by rw [← Nat.succ_mul]; exact Nat.mul_le_mul_right _ hi
 refine ⟨h.lo, h.hi, ⟨_, by rw [z7b], by rw [List.length_set, z1r (by omega)]; exact hl, ?_⟩, by rw [List.length_set]; exact h.len, h.cap, fun x hx => ?_, fun x hx => ?_⟩
 ·rw [List.length_set, zd6 (by omega) hl, ht, zeh L i y h.sz hy hi]
 ·rcases List.mem_or_eq_of_mem_set hx with h1 | h1
  ·exact h.sz x h1
  ·rw [h1]; exact hy
 ·rcases List.mem_or_eq_of_mem_set hx with h1 | h1
  ·exact h.all x h1
  ·rw [h1]; exact ha
theorem OwnS.heap (h : OwnS H e s base L b c) {H' : Heap} (hg : H'.get b = H.get b) (hn : H.next ≤ H'.next) : OwnS H' e s base L b c := by
 obtain ⟨cs, h1, h2, h3⟩ := h.row
 exact ⟨h.lo, Nat.lt_of_lt_of_le h.hi hn, ⟨cs, hg.trans h1, h2, h3⟩, h.len, h.cap, h.sz, h.all⟩
theorem OwnS.keep (h : OwnS H e s base L b c) {H' : Heap} (hx : HX H H') : OwnS H' e s base L b c := h.heap (hx.keep b h.hi) hx.next
theorem OwnS.take (h : OwnS H e s base L b c) {m : Nat} (hm : m ≤ L.length) : OwnS H e s base (L.take m) b c := by
 obtain ⟨cs, h1, h2, h3⟩ := h.row
 have hl : (L.take m).length = m := by rw [List.length_take]; omega
 have hle : m * s ≤ L.length * s := Nat.mul_le_mul_right _ hm
 refine ⟨h.lo, h.hi, ⟨cs, h1, by rw [hl]; omega, ?_⟩, by rw [hl]; exact Nat.le_trans hm h.len, h.cap, fun x hx => h.sz x (List.mem_of_mem_take hx), fun x hx => h.all x (List.mem_of_mem_take hx)⟩
 rw [hl]
 have h4 : (cs.take (L.length * s)).take (m * s) = L.flatten.take (m * s) := by rw [h3]
 rw [List.take_take, Nat.min_eq_left hle] at h4
 rw [h4]
 have h5 : L.flatten = (L.take m).flatten ++ (L.drop m).flatten := by rw [← List.flatten_append, List.take_append_drop]
 have h6 := z4b (L.take m) fun x hx => h.sz x (List.mem_of_mem_take hx)
 rw [hl] at h6
 rw [h5, List.take_left' h6]
theorem OwnS.push (h : OwnS H e s base L b c) {cs : List Value} (hg : H.get b = some (.row cs e)) {y : List Value} (hy : y.length = s) (ha : y.all one = true) (hm : L.length + 1 ≤ maxLen) (hb : base ≤ H.next) :
  OwnS ((H.put b none).new (some (.row (cs.take (L.length * s) ++ y) e))) e s base (L ++ [y]) H.next (L.length + 1) := by
 obtain ⟨cs', h1, h2, h3⟩ := h.row
 rw [hg] at h1; cases h1
 refine ⟨hb, Nat.lt_succ_self _, ⟨_, z0p, ?_, ?_⟩, by simp, hm, fun x hx => ?_, fun x hx => ?_⟩
 ·rw [List.length_append, List.length_append, List.length_take, hy, List.length_singleton, Nat.succ_mul]; omega
 ·rw [h3, List.take_of_length_le, List.flatten_append]
  ·simp
  ·rw [List.length_append, z4b L h.sz, hy, List.length_append, List.length_singleton, Nat.succ_mul]; exact Nat.le_refl _
 ·rcases List.mem_append.1 hx with h5 | h5
  ·exact h.sz x h5
  ·simp at h5; rw [h5]; exact hy
 ·rcases List.mem_append.1 hx with h5 | h5
  ·exact h.all x h5
  ·simp at h5; rw [h5]; exact ha
theorem OwnS.first {y : List Value} (hy : y.length = s) (ha : y.all one = true) (hb : base ≤ H.next) : OwnS (H.new (some (.row y e))) e s base [y] H.next 1 :=
 ⟨hb, Nat.lt_succ_self _, ⟨_, z0p, by simp [hy], by simp [← hy]⟩, by simp, by simp [maxLen], by simpa using hy, by simpa using ha⟩
theorem OwnS.made {L : List (List Value)} {n : Nat} (hn : L.length = n) (hz : ∀ x ∈ L, x.length = s) (ha : ∀ x ∈ L, x.all one = true) (hb : base ≤ H.next) (hm : n ≤ maxLen) : OwnS (H.new (some (.row L.flatten e))) e s base L H.next n :=
 ⟨hb, Nat.lt_succ_self _, ⟨_, z0p, by rw [z4b L hz]; exact Nat.le_refl _, by rw [List.take_of_length_le]; rw [z4b L hz]; exact Nat.le_refl _⟩, by omega, hm, hz, ha⟩
end
structure RdS (H : Heap) (vs : List Value) (a : Option Addr) (c : Nat) : Prop where
 len : vs.length ≤ c
 cap : c ≤ maxLen
 get : ∀ i v, vs[i]? = some v → ∃ b o, a = some ⟨b, o, none⟩ ∧ H.load ⟨b, o + i, none⟩ 1 = some [v]
theorem RdS.keep {H H' : Heap} {vs : List Value} {a : Option Addr} {c : Nat} (h : RdS H vs a c) (hx : HX H H') (hw : H.wf) : RdS H' vs a c :=
 ⟨h.len, h.cap, fun i v hv => let ⟨b, o, ha, hl⟩ := h.get i v hv; ⟨b, o, ha, hx.load hw hl⟩⟩
theorem RdS.take {H : Heap} {vs : List Value} {a : Option Addr} {c : Nat} (h : RdS H vs a c) (m : Nat) : RdS H (vs.take m) a c :=
 ⟨by have := h.len; simp; omega, h.cap, fun i v hv => h.get i v (by rw [List.getElem?_take] at hv; split at hv; exact hv; cases hv)⟩
theorem OwnS.rds {H : Heap} {e : TypeId} {base b c : Nat} {vs : List Value} (h : OwnS H e 1 base (vs.map fun v => [v]) b c) : RdS H vs (some ⟨b, 0, none⟩) c :=
 ⟨by simpa using h.len, h.cap, fun i v hv => ⟨b, 0, rfl, by have := h.load (i := i) (x := [v]) (by simp [hv]); simpa using this⟩⟩
theorem RdS.nil {H : Heap} : RdS H [] none 0 := ⟨Nat.le_refl _, Nat.zero_le _, fun i v hv => by simp at hv⟩
end Go.Hb
end

section
namespace Go.Hb
open Go Go.RowKit
section
variable {P : Program} {ok : Ok} {tm : Tr Value} {H : Heap} {fn : Func} {K : Value → Heap → Prop}
theorem z0a {a : Tmp} {t : TypeId} {ad : Addr} {v : Value} (h : fn.results.toList = [.cell a t]) (hv : tm.get a = some (.pointer (some ad))) (hd : dLoad P t (.pointer (some ad)) H = some (.val v H)) (hk : K v H) : Ex.leave P ok fn K .ret ⟨tm, [], H⟩ := by
 refine EvV.now (v := v) ?_ hk
 have hd' : dload P t ad H = some v := by
  simp only [dLoad] at hd
  cases hx : dload P t ad H with
  | none => rw [hx] at hd; cases hd
  | some u => rw [hx] at hd; simp only [Option.map_some, Option.some.injEq, Dr.val.injEq] at hd; rw [hd.1]
 simp only [dres, h, dresL, dres1, hv, hd']
theorem z0f {a q : Tmp} {t : TypeId} {ad : Addr} {v u : Value} (h : fn.results.toList = [.cell a t, .tmp q]) (hv : tm.get a = some (.pointer (some ad))) (hd : dLoad P t (.pointer (some ad)) H = some (.val v H)) (hu : tm.get q = some u)
  (hk : K (.tuple ⟨[v, u]⟩) H) : Ex.leave P ok fn K .ret ⟨tm, [], H⟩ := by
 refine EvV.now (v := .tuple ⟨[v, u]⟩) ?_ hk
 have hd' : dload P t ad H = some v := by
  simp only [dLoad] at hd
  cases hx : dload P t ad H with
  | none => rw [hx] at hd; cases hd
  | some u => rw [hx] at hd; simp only [Option.map_some, Option.some.injEq, Dr.val.injEq] at hd; rw [hd.1]
 simp only [dres, h, dresL, dres1, hv, hd', hu, Option.getD_some]
theorem zkg {a : Addr} {n : Nat} {l : List Value} (h : H.load a n = some l) : l.length = n := by
 unfold Heap.load at h
 split at h
 ·simp only at h
  split at h
  ·rename_i hh; cases h; rw [Nat.beq_eq] at hh; exact hh
  ·cases h
 ·cases h
theorem zmx {t e : TypeId} {s b o n c c' : Nat} {ad : Addr} {cs news : List Value} {e' : TypeId} (h : slcOk P t e s) (h0 : 0 < n) (hl : H.load ad (n * s) = some news) (hone : news.all one = true) (hb : H.get b = some (.row cs e')) (hf : o + news.length ≤ cs.length) :
  dCp P #[t, t] (.slice (some ⟨b, o, none⟩) n c) (.slice (some ad) n c') H = some (.val (.int .i64 n) (H.put b (some (.row (splice cs o news) e')))) := by
 obtain ⟨h1, h2, h3⟩ := h
 obtain ⟨i, hi⟩ := Option.isSome_iff_exists.1 h2
 have e0 : Nat.beq n 0 = false := by rw [← Bool.not_eq_true, Nat.beq_eq]; omega
 have e1 : Nat.min n n = n := Nat.min_self n
 simp only [dCp, dcopy, h1, hi, e1, e0, dsource, h3, hl, Heap.store, hb, Bool.false_eq_true, if_false]
 rw [if_pos ⟨hf, hone⟩]
theorem zkh {t e : TypeId} {s : Nat} {a a' : Option Addr} {c c' : Nat} (h : slcOk P t e s) : dCp P #[t, t] (.slice a 0 c) (.slice a' 0 c') H = some (.val (.int .i64 0) H) := by
 obtain ⟨h1, h2, _⟩ := h
 obtain ⟨i, hi⟩ := Option.isSome_iff_exists.1 h2
 simp only [dCp, dcopy, h1, hi]
 rfl
theorem RdS.all {vs : List Value} {a : Option Addr} {c : Nat} (h : RdS H vs a c) (h0 : vs ≠ []) : ∃ b o, a = some ⟨b, o, none⟩ ∧ H.load ⟨b, o, none⟩ vs.length = some vs := by
 match vs, h0, h with
 | v :: r, _, h =>
  obtain ⟨b, o, ha, hl⟩ := h.get 0 v rfl
  refine ⟨b, o, ha, ?_⟩
  have key : ∃ cs, H.cells b = some cs ∧ ∀ i v', (v :: r)[i]? = some v' → cs[o + i]? = some v' := by
   cases hc : H.cells b with
   | none => unfold Heap.load at hl; simp only [hc] at hl; cases hl
   | some cs =>
    refine ⟨cs, rfl, fun i v' hi => ?_⟩
    obtain ⟨b', o', ha', hl'⟩ := h.get i v' hi
    rw [ha] at ha'
    cases ha'
    have hll := zkg hl'
    unfold Heap.load at hl'
    simp only [hc] at hl'
    split at hl'
    ·simp only [Option.some.injEq] at hl'
     have : ((cs.drop (o + i)).take 1)[0]? = some v' := by rw [hl']; rfl
     simpa [List.getElem?_take, List.getElem?_drop] using this
    ·cases hl'
  obtain ⟨cs, hc, hg⟩ := key
  have e : (cs.drop o).take (v :: r).length = v :: r := by
   apply List.ext_getElem?
   intro k
   rw [List.getElem?_take]
   by_cases hk : k < (v :: r).length
   ·rw [if_pos hk, List.getElem?_drop, List.getElem?_eq_getElem hk, hg k _ (List.getElem?_eq_getElem hk)]
   ·rw [if_neg hk, List.getElem?_eq_none (by omega)]
  unfold Heap.load
  simp only [hc, e]
  rw [if_pos (by rw [Nat.beq_eq])]
theorem OwnS.ones {e : TypeId} {base b c : Nat} {vs : List Value} (hg : H.get b = some (.row vs e)) (lo : base ≤ b) (hi : b < H.next) (hc : vs.length ≤ c) (hm : c ≤ maxLen) (ho : vs.all one = true) : OwnS H e 1 base (vs.map fun v => [v]) b c := by
 have hf : (vs.map fun v => [v]).flatten = vs := by
  clear hg hc ho
  induction vs with
  | nil => rfl
  | cons v vs ih => rw [List.map_cons, List.flatten_cons, ih]; rfl
 refine ⟨lo, hi, ⟨vs, hg, by simp, ?_⟩, by simpa using hc, hm, by simp, fun x hx => ?_⟩
 ·rw [hf, List.take_of_length_le (by simp)]
 ·obtain ⟨v, hv, rfl⟩ := List.mem_map.1 hx
  simpa using List.all_eq_true.1 ho v hv
end
end Go.Hb
end

section
namespace Go.Hb
open Go Go.RowKit
section
variable {P : Program} {H : Heap} {e : TypeId} {s base b c : Nat} {L : List (List Value)} {v : Value}
theorem RepO.empty : RepO H e s base [] (.slice none 0 0) := .inl ⟨rfl, rfl⟩
theorem RepO.own (h : RepO H e s base L v) (h0 : L ≠ []) : ∃ b c, OwnS H e s base L b c ∧ v = .slice (some ⟨b, 0, none⟩) L.length c := by
 rcases h with ⟨h1, _⟩ | h
 ·exact absurd h1 h0
 ·exact h
theorem RepO.slice (h : RepO H e s base L v) : ∃ a c, v = .slice a L.length c ∧ L.length ≤ c ∧ c ≤ maxLen := by
 rcases h with ⟨rfl, rfl⟩ | ⟨b, c, h, rfl⟩
 ·exact ⟨_, 0, rfl, Nat.le_refl _, Nat.zero_le _⟩
 ·exact ⟨_, c, rfl, h.len, h.cap⟩
theorem RepO.keep (h : RepO H e s base L v) {H' : Heap} (hx : HX H H') : RepO H' e s base L v := by
 rcases h with h | ⟨b, c, h, hv⟩
 ·exact .inl h
 ·exact .inr ⟨b, c, h.keep hx, hv⟩
theorem RepO.before (h : RepO H e s base L v) {H' : Heap} {lo : Nat} (hk : ∀ i, i < lo → H'.get i = H.get i) (hn : H.next ≤ H'.next) (hlo : ∀ b c, OwnS H e s base L b c → b < lo) : RepO H' e s base L v := by
 rcases h with h | ⟨b, c, h, hv⟩
 ·exact .inl h
 ·exact .inr ⟨b, c, h.heap (hk b (hlo b c h)) hn, hv⟩
theorem RepO.putlo (h : RepO H e s base L v) {i : Nat} (hi : i < base) (B : Option Blk) : RepO (H.put i B) e s base L v := by
 rcases h with h | ⟨b, c, h, hv⟩
 ·exact .inl h
 ·exact .inr ⟨b, c, h.heap (z37 (by have := h.lo; omega)) (Nat.le_refl _), hv⟩
theorem RepO.other (h : RepO H e s base L v) {i : Nat} {cs : List Value} {e' : TypeId} (hi : H.get i = some (.row cs e')) (hne : e' ≠ e) (B : Option Blk) : RepO (H.put i B) e s base L v := by
 rcases h with h | ⟨b, c, h, hv⟩
 ·exact .inl h
 ·refine .inr ⟨b, c, h.heap (z37 fun hb => ?_) (Nat.le_refl _), hv⟩
  obtain ⟨cs', hg, _⟩ := h.row
  rw [hb, hi] at hg
  cases hg
  exact hne rfl
theorem RepO.beside (h : RepO H e s base L v) {H2 : Heap} {e' : TypeId} (hk : ∀ i, i < H.next → (∀ cs, H.get i ≠ some (.row cs e')) → H2.get i = H.get i) (hn : H.next ≤ H2.next) (hne : e' ≠ e) : RepO H2 e s base L v := by
 rcases h with h | ⟨b, c, h, hv⟩
 ·exact .inl h
 ·refine .inr ⟨b, c, h.heap (hk b h.hi fun cs hcs => ?_) hn, hv⟩
  obtain ⟨cs', hg, _⟩ := h.row
  rw [hcs] at hg
  cases hg
  exact hne rfl
theorem RepO.takeO (h : OwnS H e s base L b c) (m : Nat) (hm : m ≤ L.length) : RepO H e s base (L.take m) (.slice (some ⟨b, 0, Option.none⟩) m c) := by
 refine .inr ⟨b, c, h.take hm, ?_⟩
 rw [List.length_take, Nat.min_eq_left hm]
section
variable {ok : Ok} {x : Ctx} {d : Option Tmp} {tm : Tr Value} {ds : List Deferred} {H' : Heap} {KK : Tr Value → List Deferred → Heap → Prop}
end
def sameK (v : Value) (G : Heap) : Option Dr → Bool
 | some (.val u H') => veq u v && Nat.beq H'.next G.next
 | _ => false
theorem z7k {o : Oper} {ρ : Operand → Value} {hs : List Heap} : sameOn P o ρ v (H :: hs) = (sameK v H (dop P o ρ H) && sameOn P o ρ v hs) := by
 rw [sameOn]; unfold sameK
 cases dop P o ρ H with
 | none => rfl
 | some r => cases r <;> rfl
theorem zbb {u : Value} {H' : Heap} : sameK v H (some (.val u H')) = (veq u v && Nat.beq H'.next H.next) := _root_.id rfl
theorem zbc {H : Heap} {n k : Nat} {a : Addr} : Heap.load ⟨n, H.t⟩ a k = H.load a k := _root_.id rfl
theorem zei {H : Heap} {n i : Nat} : Heap.get ⟨n, H.t⟩ i = H.get i := _root_.id rfl
theorem RepO.low (h : RepO H e s base L v) {base' : Nat} (hb : base' ≤ base) : RepO H e s base' L v := by
 rcases h with h | ⟨b, c, h, hv⟩
 ·exact .inl h
 ·exact .inr ⟨b, c, ⟨Nat.le_trans hb h.lo, h.hi, h.row, h.len, h.cap, h.sz, h.all⟩, hv⟩
theorem RepO.rds {vs : List Value} (h : RepO H e 1 base (vs.map fun v => [v]) v) : ∃ a c, v = .slice a vs.length c ∧ RdS H vs a c := by
 rcases h with ⟨h1, rfl⟩ | ⟨b, c, h, rfl⟩
 ·have : vs = [] := by simpa using h1
  subst this
  exact ⟨_, 0, rfl, RdS.nil⟩
 ·exact ⟨_, c, by simp, h.rds⟩
theorem RepO.rds' {vs : List Value} {a : Option Addr} {n c : Nat} (h : RepO H e 1 base (vs.map fun v => [v]) (.slice a n c)) : n = vs.length ∧ RdS H vs a c := by
 obtain ⟨a', c', hv, hr⟩ := h.rds
 cases hv
 exact ⟨rfl, hr⟩
theorem RepO.push {t : TypeId} (h : RepO H e s base L v) (hp : apOk P t e s) {y : List Value} (hy : y.length = s) (ha : y.all one = true) (hn : L.length + 1 ≤ most) (hb : base ≤ H.next) :
  ∃ H2 v2, dAp P #[t, t] v (.slice (some ⟨H.next, 0, Option.none⟩) 1 1) (H.new (some (.row y e))) = some (.val v2 H2) ∧ RepO H2 e s base (L ++ [y]) v2 ∧ H2.next = H.next + 2 ∧ (∀ A, HX A H → A.next ≤ base → HX A H2) ∧ (∀ i, i < H.next → (∀ cs, H.get i ≠ some (.row cs e)) → H2.get i = H.get i) := by
 have hs0 : 0 < s := by obtain ⟨i, _, _, _, _, h0, _⟩ := hp; exact h0
 have hmax : most ≤ maxLen := by simp [most, maxLen]
 have hl : (H.new (some (.row y e))).load ⟨H.next, 0, Option.none⟩ (1 * s) = some y := by
  rw [z3u, Nat.one_mul]
  unfold cutC
  simp [← hy]
 rcases h with ⟨rfl, rfl⟩ | ⟨b, c, h, rfl⟩
 ·refine ⟨_, _, z5y hp (by omega) (by simp [most]) hl ha, .inr ⟨_, 1, OwnS.first hy ha (Nat.le_succ_of_le hb), rfl⟩, rfl, fun A hx _ => (hx.new _).new _, fun i hi _ => by rw [z1u (Nat.lt_succ_of_lt hi), z1u hi]⟩
 ·obtain ⟨cs, hg, hle, ht⟩ := h.row
  have hbn : b < H.next := h.hi
  have h1 : OwnS (H.new (some (.row y e))) e s base L b c := h.heap (by rw [z1u hbn]) (Nat.le_succ _)
  have hg1 : (H.new (some (.row y e))).get b = some (.row cs e) := by rw [z1u hbn]; exact hg
  have hone : (cs.take (L.length * s)).all one = true := by
   rw [ht, List.all_eq_true]
   intro z hz
   obtain ⟨l, hl1, hl2⟩ := List.mem_flatten.1 hz
   exact List.all_eq_true.1 (h.all l hl1) z hl2
  refine ⟨_, _, z5z hp (by omega) hn hl ha hg1 hle hone, .inr ⟨_, _, h1.push hg1 hy ha (Nat.le_trans hn hmax) (Nat.le_succ_of_le hb), by simp⟩, rfl, fun A hx hA => ?_, fun i hi hne => ?_⟩
  rotate_left
  ·have hib : i ≠ b := fun h => hne cs (h ▸ hg)
   rw [z1u (by rw [z07]; exact Nat.lt_succ_of_lt hi), z37 hib, z1u hi]
  have hx1 := hx.new (some (.row y e))
  have hx2 := hx1.put (i := b) (by have := h.lo; omega) (Nat.lt_succ_of_lt hbn) Option.none
  exact hx2.new _
end
theorem z7l (b : ByteArray) : ∀ (k i : Nat) (r : List UInt8), b.size - i = k → ByteArray.toList.loop b i r = r.reverse ++ b.data.toList.drop i
 | 0, i, r, h => by
  rw [ByteArray.toList.loop, if_neg (by omega), List.drop_of_length_le (by simp; omega), List.append_nil]
 | k + 1, i, r, h => by
  have hi : i < b.data.toList.length := by simp; omega
  rw [ByteArray.toList.loop, if_pos (by omega), z7l b k (i + 1) _ (by omega), List.reverse_cons, List.append_assoc, List.drop_eq_getElem_cons hi]
  congr 1
  have hi' : i < b.data.size := by simpa using hi
  have : b.get! i = b.data.toList[i] := by
   unfold ByteArray.get!
   simp
   rw [getElem!_pos b.data i hi']
  rw [this]; rfl
theorem z1b (b : ByteArray) : b.toList = b.data.toList := by
 unfold ByteArray.toList
 rw [z7l b _ 0 [] rfl]; rfl
theorem zej {P : Program} {H : Heap} {t : TypeId} {x y : Operand} {a : ByteArray} : dBin P .eql t x y (.string a) (.string ⟨#[]⟩) H = some (.val (.bool (decide (a.size = 0))) H) := by
 rw [z1j, z1b, z1b]
 congr 3
 by_cases h : a.size = 0
 ·have : a.data.toList = [] := List.length_eq_zero_iff.1 (by simpa using h)
  rw [this, decide_eq_true h]; rfl
 ·rw [decide_eq_false h]
  cases hd : a.data.toList with
  | nil => exact absurd (by have := congrArg List.length hd; simpa using this) h
  | cons b l => rfl
theorem z2d {P : Program} {H : Heap} {t : TypeId} {x y : Operand} {a b : ByteArray} : dBin P .eql t x y (.string a) (.string b) H = some (.val (.bool (a.data.toList == b.data.toList)) H) := by
 rw [z1j, z1b, z1b]
end Go.Hb
end

section
namespace Go.Hb
open Go Go.RowKit
section
variable (P : Program) (ok : Ok) (x : Ctx) (ops : Array Oper) (base : Nat)
def STK (e : Option Nat) (S : List (List (Nat × Nat) × Option Nat)) (G : Heap) (gs : List Heap) (ds : List Deferred) (K : Tr Value → List Deferred → Heap → Prop) (tm : Tr Value) (H : Heap) : Prop :=
 match e with
 | none => K tm ds H
 | some e => ES1 P ok x ops tm ds H (fun tm ds H => ES P ok x ops base S H (G :: gs) tm ds K) ops.toList[e]?
def STG (L : List (Nat × Nat)) (e : Option Nat) (S : List (List (Nat × Nat) × Option Nat)) (G : Heap) (gs : List Heap) (ds : List Deferred) (K : Tr Value → List Deferred → Heap → Prop) (tm : Tr Value) (H : Heap) : Prop := EN P ops base G gs L tm H (STK P ok x ops base e S G gs ds K)
def SGO (i k : Nat) (L : List (Nat × Nat)) (e : Option Nat) (S : List (List (Nat × Nat) × Option Nat)) (G : Heap) (gs : List Heap) (ds : List Deferred) (K : Tr Value → List Deferred → Heap → Prop) (o : Oper) (tm : Tr Value) (H : Heap) (al : Bool) : Prop :=
 match al with
 | true => AK base i tm H (fun tm H => STG P ok x ops base L e S G gs ds K tm H) o.dst (dalloc P o (ev tm))
 | false => NK P k o tm gs (fun tm => STG P ok x ops base L e S G gs ds K tm H) o.dst G.next (dop P o (ev tm) G)
def SAL (i : Nat) (L : List (Nat × Nat)) (e : Option Nat) (S : List (List (Nat × Nat) × Option Nat)) (G : Heap) (gs : List Heap) (ds : List Deferred) (K : Tr Value → List Deferred → Heap → Prop) (d : Option Tmp) (tm : Tr Value) (H : Heap) (r : Option (Blk × (Nat → Value))) : Prop := AK base i tm H (fun tm H => STG P ok x ops base L e S G gs ds K tm H) d r
def SRD (k : Nat) (L : List (Nat × Nat)) (e : Option Nat) (S : List (List (Nat × Nat) × Option Nat)) (G : Heap) (gs : List Heap) (ds : List Deferred) (K : Tr Value → List Deferred → Heap → Prop) (o : Oper) (tm : Tr Value) (H : Heap) (r : Option Dr) : Prop := NK P k o tm gs (fun tm => STG P ok x ops base L e S G gs ds K tm H) o.dst G.next r
def SOP (i k : Nat) (L : List (Nat × Nat)) (e : Option Nat) (S : List (List (Nat × Nat) × Option Nat)) (G : Heap) (gs : List Heap) (ds : List Deferred) (K : Tr Value → List Deferred → Heap → Prop) (tm : Tr Value) (H : Heap) (o : Option Oper) : Prop := EN1 P ops base G gs i k tm H (fun tm H => STG P ok x ops base L e S G gs ds K tm H) o
def SGD (i k : Nat) (L : List (Nat × Nat)) (e : Option Nat) (S : List (List (Nat × Nat) × Option Nat)) (G : Heap) (gs : List Heap) (ds : List Deferred) (K : Tr Value → List Deferred → Heap → Prop) (o : Oper) (tm : Tr Value) (H : Heap) (w : Bool) (g : Option Value) : Prop := GK o.dst tm (SGO P ok x ops base i k L e S G gs ds K o tm H (isAlloc o)) (STG P ok x ops base L e S G gs ds K (putD tm o.dst undef) H) w g
def SLK (S : List (List (Nat × Nat) × Option Nat)) (G : Heap) (gs : List Heap) (ds : List Deferred) (K : Tr Value → List Deferred → Heap → Prop) (d : Option Tmp) (tm : Tr Value) (H : Heap) (r : Option Dr) : Prop :=
 LK P ok x d tm ds H (fun tm ds H => ES P ok x ops base S H (G :: gs) tm ds K) r
def SEF (S : List (List (Nat × Nat) × Option Nat)) (G : Heap) (gs : List Heap) (ds : List Deferred) (K : Tr Value → List Deferred → Heap → Prop) (tm : Tr Value) (H : Heap) (o : Option Oper) : Prop :=
 ES1 P ok x ops tm ds H (fun tm ds H => ES P ok x ops base S H (G :: gs) tm ds K) o
def SEG (S : List (List (Nat × Nat) × Option Nat)) (G : Heap) (gs : List Heap) (ds : List Deferred) (K : Tr Value → List Deferred → Heap → Prop) (o : Oper) (tm : Tr Value) (H : Heap) (w : Bool) (g : Option Value) : Prop :=
 GK o.dst tm (SLK P ok x ops base S G gs ds K o.dst tm H (dop P o (ev tm) H)) (ES P ok x ops base S H (G :: gs) (putD tm o.dst undef) ds K) w g
def SCK (S : List (List (Nat × Nat) × Option Nat)) (G : Heap) (gs : List Heap) (ds : List Deferred) (K : Tr Value → List Deferred → Heap → Prop) (d : Option Tmp) (tm : Tr Value) (v : Value) (H' : Heap) : Prop :=
 ES P ok x ops base S H' (G :: gs) (putD tm d v) ds K
end
section
variable {P : Program} {ok : Ok} {x : Ctx} {ops : Array Oper} {base i k n j : Nat} {L : List (Nat × Nat)} {e : Option Nat} {S : List (List (Nat × Nat) × Option Nat)} {G H H' G' : Heap} {gs : List Heap} {ds : List Deferred} {K : Tr Value → List Deferred → Heap → Prop} {tm : Tr Value} {w b : Bool} {v : Value}
 {d : Option Tmp} {op : Op} {ty : TypeId} {pos : String} {af : Array Edge} {gd : Option (Nat × Bool)} {o : Oper}
theorem zhs : ES P ok x ops base ((L, none) :: S) G gs tm ds K = STG P ok x ops base L none S G gs ds K tm G := _root_.id rfl
theorem zht : ES P ok x ops base ((L, some n) :: S) G gs tm ds K = STG P ok x ops base L (some n) S G gs ds K tm G := _root_.id rfl
theorem zlp : STG P ok x ops base ((i, k) :: L) e S G gs ds K tm H = SOP P ok x ops base i k L e S G gs ds K tm H ops.toList[i]? := _root_.id rfl
theorem zhu : STG P ok x ops base [] (some n) S G gs ds K tm H = SEF P ok x ops base S G gs ds K tm H ops.toList[n]? := _root_.id rfl
theorem zhv : STG P ok x ops base [] none S G gs ds K tm H = K tm ds H := _root_.id rfl
theorem zek : SOP P ok x ops base i k L e S G gs ds K tm H (some ⟨d, op, ty, pos, af, none⟩) = SGO P ok x ops base i k L e S G gs ds K ⟨d, op, ty, pos, af, none⟩ tm H (isAlloc ⟨d, op, ty, pos, af, none⟩) := by
 simp only [SOP, EN1, SGO] <;> rfl
theorem zbd : SOP P ok x ops base i k L e S G gs ds K tm H (some ⟨d, op, ty, pos, af, some (j, w)⟩) = SGD P ok x ops base i k L e S G gs ds K ⟨d, op, ty, pos, af, some (j, w)⟩ tm H w (guardOf ops tm j) := by
 simp only [SOP, EN1, SGD, SGO] <;> rfl
theorem zlq : SGD P ok x ops base i k L e S G gs ds K o tm H true (some (.bool true)) = SGO P ok x ops base i k L e S G gs ds K o tm H (isAlloc o) := by simp [SGD, GK]
theorem zlr : SGD P ok x ops base i k L e S G gs ds K o tm H false (some (.bool false)) = SGO P ok x ops base i k L e S G gs ds K o tm H (isAlloc o) := by simp [SGD, GK]
theorem zls : SGD P ok x ops base i k L e S G gs ds K o tm H true (some (.bool false)) = STG P ok x ops base L e S G gs ds K (putD tm o.dst undef) H := by simp [SGD, GK]
theorem zlt : SGD P ok x ops base i k L e S G gs ds K o tm H false (some (.bool true)) = STG P ok x ops base L e S G gs ds K (putD tm o.dst undef) H := by simp [SGD, GK]
theorem zbe : SGD P ok x ops base i k L e S G gs ds K o tm H w (some undef) = STG P ok x ops base L e S G gs ds K (putD tm o.dst undef) H := _root_.id rfl
theorem zbf : SGO P ok x ops base i k L e S G gs ds K o tm H true = SAL P ok x ops base i L e S G gs ds K o.dst tm H (dalloc P o (ev tm)) := _root_.id rfl
theorem zel : SGO P ok x ops base i k L e S G gs ds K o tm H false = SRD P ok x ops base k L e S G gs ds K o tm H (dop P o (ev tm) G) := _root_.id rfl
theorem zem {B : Blk} {mk : Nat → Value} : SAL P ok x ops base i L e S G gs ds K d tm H (some (B, mk)) = STG P ok x ops base L e S G gs ds K (putD tm d (mk (base + i))) (H.put (base + i) (some B)) := _root_.id rfl
theorem zhw : SRD P ok x ops base k L e S G gs ds K ⟨d, op, ty, pos, af, gd⟩ tm H (some (.val v G')) = ((isRead ⟨d, op, ty, pos, af, gd⟩ = false ∨ (G'.next = G.next ∧ sameOn P ⟨d, op, ty, pos, af, gd⟩ (ev tm) v (gs.take (gs.length - k)) = true)) ∧ STG P ok x ops base L e S G gs ds K (putD tm d v) H) := _root_.id rfl
theorem zen : SEF P ok x ops base S G gs ds K tm H (some ⟨d, op, ty, pos, af, none⟩) = SLK P ok x ops base S G gs ds K d tm H (dop P ⟨d, op, ty, pos, af, none⟩ (ev tm) H) := _root_.id rfl
theorem zbg : SEF P ok x ops base S G gs ds K tm H (some ⟨d, op, ty, pos, af, some (j, w)⟩) = SEG P ok x ops base S G gs ds K ⟨d, op, ty, pos, af, some (j, w)⟩ tm H w (guardOf ops tm j) := _root_.id rfl
theorem zlu : SEG P ok x ops base S G gs ds K ⟨d, op, ty, pos, af, gd⟩ tm H true (some (.bool true)) = SLK P ok x ops base S G gs ds K d tm H (dop P ⟨d, op, ty, pos, af, gd⟩ (ev tm) H) := by simp [SEG, GK]
theorem zlv : SEG P ok x ops base S G gs ds K ⟨d, op, ty, pos, af, gd⟩ tm H false (some (.bool false)) = SLK P ok x ops base S G gs ds K d tm H (dop P ⟨d, op, ty, pos, af, gd⟩ (ev tm) H) := by simp [SEG, GK]
theorem zlw : SEG P ok x ops base S G gs ds K o tm H true (some (.bool false)) = ES P ok x ops base S H (G :: gs) (putD tm o.dst undef) ds K := by simp [SEG, GK]
theorem zlx : SEG P ok x ops base S G gs ds K o tm H false (some (.bool true)) = ES P ok x ops base S H (G :: gs) (putD tm o.dst undef) ds K := by simp [SEG, GK]
theorem zbh : SEG P ok x ops base S G gs ds K o tm H w (some undef) = ES P ok x ops base S H (G :: gs) (putD tm o.dst undef) ds K := _root_.id rfl
theorem zhx : SLK P ok x ops base S G gs ds K d tm H (some (.val v H')) = ES P ok x ops base S H' (G :: gs) (putD tm d v) ds K := _root_.id rfl
theorem zeo {f : FuncId} {args : List Value} : SLK P ok x ops base S G gs ds K d tm H (some (.call f args)) = EvF P ok f args H (SCK P ok x ops base S G gs ds K d tm) := _root_.id rfl
theorem z0u (h : ES P ok x ops base S H' (G :: gs) (putD tm d v) ds K) : SCK P ok x ops base S G gs ds K d tm v H' := h
end
end Go.Hb
end

section
namespace Go.Hb
open Go Go.RowKit
theorem zep {k : IntKind} {n : Int} : veq (.int k n) (.int k n) = true := by simp [veq]
theorem zly {s : ByteArray} : veq (.string s) (.string s) = true := by simp [veq]
theorem zhy {b : Bool} : veq (.bool b) (.bool b) = true := by simp [veq]
theorem zeq {k : FloatKind} {n : Nat} : veq (.float k n) (.float k n) = true := by simp [veq]
theorem zlz {a : Option Addr} : veq (.pointer a) (.pointer a) = true := by simp [veq]
theorem zm0 {a : Option Nat} : veq (.map a) (.map a) = true := by simp [veq]
theorem zer {a : Option Addr} {n c : Nat} : veq (.slice a n c) (.slice a n c) = true := by simp [veq]
theorem zm1 {a b : List Value} : veq (.agg ⟨a⟩) (.agg ⟨b⟩) = veqL a b := by simp [veq]
theorem zes {a b : List Value} : veq (.tuple ⟨a⟩) (.tuple ⟨b⟩) = veqL a b := by simp [veq]
theorem zhz {x y : Value} {a b : List Value} : veqL (x :: a) (y :: b) = (veq x y && veqL a b) := by simp [veqL]
theorem zm2 : veqL [] [] = true := by simp [veqL]
end Go.Hb
end

section
namespace Go.Hb
open Go Go.RowKit
theorem sA : type_of% (And.intro (And.intro (And.intro (And.intro (And.intro (And.intro (@zhl) (And.intro (@zli) (@zdv))) (And.intro (@zlj) (And.intro (@zhm) (@zdw)))) (And.intro (And.intro (@zo4) (And.intro (@zo5) (@zo6))) (And.intro (And.intro (@zo7) (@zdx)) (And.intro (@zho) (@z48))))) (And.intro (And.intro (And.intro (@zdy) (And.intro (@zdz) (@z8p))) (And.intro (And.intro (@ze0) (@zb1)) (And.intro (@zb2) (@z5a)))) (And.intro (And.intro (@z5b) (And.intro (@zhn) (@ze1))) (And.intro (And.intro (@ze2) (@ze5)) (And.intro (@zb3) (@zds)))))) (And.intro (And.intro (And.intro (And.intro (@zlh) (And.intro (@zhk) (@zb0))) (And.intro (@Tr.get_put) (And.intro (@zdt) (@zdu)))) (And.intro (And.intro (@Option.getD_some.{0}) (And.intro (@Nat.add_zero) (@Nat.zero_add))) (And.intro (And.intro (@List.all_cons.{0}) (@List.all_nil.{0})) (And.intro (@Bool.and_self) (@z9r))))) (And.intro (And.intro (And.intro (@ze3) (And.intro (@ze4) (@z07))) (And.intro (And.intro (@get_new) (@get_put)) (And.intro (@z76) (@z77)))) (And.intro (And.intro (@List.drop_succ_cons.{0}) (And.intro (@List.drop_zero.{0}) (@List.take_succ_cons.{0}))) (And.intro (And.intro (@List.take_zero.{0}) (@List.length_cons.{0})) (And.intro (@List.length_nil.{0}) (@Nat.beq_refl))))))) (And.intro (And.intro (And.intro (And.intro (And.intro (@List.map_cons.{0, 0}) (And.intro (@List.map_nil.{0, 0}) (@z3g))) (And.intro (@z78) (And.intro (@z3i) (@z79)))) (And.intro (And.intro (@List.cons_append.{0}) (And.intro (@List.nil_append.{0}) (@List.append_nil.{0}))) (And.intro (And.intro (@Nat.le_refl) (@and_self)) (And.intro (@and_true) (@true_and))))) (And.intro (And.intro (And.intro (@List.drop_nil.{0}) (And.intro (@z02) (@z2u))) (And.intro (And.intro (@z03) (@z47)) (And.intro (@z01) (@z00)))) (And.intro (And.intro (@z8o) (And.intro (@z59) (@List.getElem?_cons_succ.{0}))) (And.intro (And.intro (@List.getElem?_cons_zero.{0}) (@ze6)) (And.intro (@ze7) (@ze8)))))) (And.intro (And.intro (And.intro (And.intro (@ze9) (And.intro (@zea) (@zeb))) (And.intro (And.intro (@zlk) (@zll)) (And.intro (@z7a) (@zlm)))) (And.intro (And.intro (@zln) (And.intro (@zlo) (@zhp))) (And.intro (And.intro (@zb4) (@zed)) (And.intro (@z4n) (@zee))))) (And.intro (And.intro (And.intro (@zb5) (And.intro (@z8t) (@z5d))) (And.intro (And.intro (@z6f) (@zb8)) (And.intro (@z7g) (@zeg)))) (And.intro (And.intro (@z8s) (And.intro (@Option.map_some.{0, 0}) (@Option.map_none.{0, 0}))) (And.intro (And.intro (@List.getElem?_nil.{0}) (@Option.some.injEq.{0})) (And.intro (@Nat.mul_one) (@Int.toNat_natCast)))))))) := And.intro (And.intro (And.intro (And.intro (And.intro (And.intro (@zhl) (And.intro (@zli) (@zdv))) (And.intro (@zlj) (And.intro (@zhm) (@zdw)))) (And.intro (And.intro (@zo4) (And.intro (@zo5) (@zo6))) (And.intro (And.intro (@zo7) (@zdx)) (And.intro (@zho) (@z48))))) (And.intro (And.intro (And.intro (@zdy) (And.intro (@zdz) (@z8p))) (And.intro (And.intro (@ze0) (@zb1)) (And.intro (@zb2) (@z5a)))) (And.intro (And.intro (@z5b) (And.intro (@zhn) (@ze1))) (And.intro (And.intro (@ze2) (@ze5)) (And.intro (@zb3) (@zds)))))) (And.intro (And.intro (And.intro (And.intro (@zlh) (And.intro (@zhk) (@zb0))) (And.intro (@Tr.get_put) (And.intro (@zdt) (@zdu)))) (And.intro (And.intro (@Option.getD_some.{0}) (And.intro (@Nat.add_zero) (@Nat.zero_add))) (And.intro (And.intro (@List.all_cons.{0}) (@List.all_nil.{0})) (And.intro (@Bool.and_self) (@z9r))))) (And.intro (And.intro (And.intro (@ze3) (And.intro (@ze4) (@z07))) (And.intro (And.intro (@get_new) (@get_put)) (And.intro (@z76) (@z77)))) (And.intro (And.intro (@List.drop_succ_cons.{0}) (And.intro (@List.drop_zero.{0}) (@List.take_succ_cons.{0}))) (And.intro (And.intro (@List.take_zero.{0}) (@List.length_cons.{0})) (And.intro (@List.length_nil.{0}) (@Nat.beq_refl))))))) (And.intro (And.intro (And.intro (And.intro (And.intro (@List.map_cons.{0, 0}) (And.intro (@List.map_nil.{0, 0}) (@z3g))) (And.intro (@z78) (And.intro (@z3i) (@z79)))) (And.intro (And.intro (@List.cons_append.{0}) (And.intro (@List.nil_append.{0}) (@List.append_nil.{0}))) (And.intro (And.intro (@Nat.le_refl) (@and_self)) (And.intro (@and_true) (@true_and))))) (And.intro (And.intro (And.intro (@List.drop_nil.{0}) (And.intro (@z02) (@z2u))) (And.intro (And.intro (@z03) (@z47)) (And.intro (@z01) (@z00)))) (And.intro (And.intro (@z8o) (And.intro (@z59) (@List.getElem?_cons_succ.{0}))) (And.intro (And.intro (@List.getElem?_cons_zero.{0}) (@ze6)) (And.intro (@ze7) (@ze8)))))) (And.intro (And.intro (And.intro (And.intro (@ze9) (And.intro (@zea) (@zeb))) (And.intro (And.intro (@zlk) (@zll)) (And.intro (@z7a) (@zlm)))) (And.intro (And.intro (@zln) (And.intro (@zlo) (@zhp))) (And.intro (And.intro (@zb4) (@zed)) (And.intro (@z4n) (@zee))))) (And.intro (And.intro (And.intro (@zb5) (And.intro (@z8t) (@z5d))) (And.intro (And.intro (@z6f) (@zb8)) (And.intro (@z7g) (@zeg)))) (And.intro (And.intro (@z8s) (And.intro (@Option.map_some.{0, 0}) (@Option.map_none.{0, 0}))) (And.intro (And.intro (@List.getElem?_nil.{0}) (@Option.some.injEq.{0})) (And.intro (@Nat.mul_one) (@Int.toNat_natCast)))))))
theorem sD : type_of% (And.intro (And.intro (And.intro (And.intro (And.intro (@zhs) (@zht)) (And.intro (@zlp) (@zhu))) (And.intro (And.intro (@zhv) (@zek)) (And.intro (@zbd) (And.intro (@zlq) (@zlr))))) (And.intro (And.intro (And.intro (@zls) (@zlt)) (And.intro (@zbe) (@zbf))) (And.intro (And.intro (@zel) (@zem)) (And.intro (@zhw) (And.intro (@zen) (@zbg)))))) (And.intro (And.intro (And.intro (And.intro (@zlu) (@zlv)) (And.intro (@zlw) (@zlx))) (And.intro (And.intro (@zbh) (@zhx)) (And.intro (@zeo) (And.intro (@true_or) (@or_true))))) (And.intro (And.intro (And.intro (@false_or) (@z8r)) (And.intro (@Nat.sub_self) (@Nat.sub_zero))) (And.intro (And.intro (@zbc) (@zei)) (And.intro (@List.size_toArray.{0}) (And.intro (@z7k) (@zbb))))))) := And.intro (And.intro (And.intro (And.intro (And.intro (@zhs) (@zht)) (And.intro (@zlp) (@zhu))) (And.intro (And.intro (@zhv) (@zek)) (And.intro (@zbd) (And.intro (@zlq) (@zlr))))) (And.intro (And.intro (And.intro (@zls) (@zlt)) (And.intro (@zbe) (@zbf))) (And.intro (And.intro (@zel) (@zem)) (And.intro (@zhw) (And.intro (@zen) (@zbg)))))) (And.intro (And.intro (And.intro (And.intro (@zlu) (@zlv)) (And.intro (@zlw) (@zlx))) (And.intro (And.intro (@zbh) (@zhx)) (And.intro (@zeo) (And.intro (@true_or) (@or_true))))) (And.intro (And.intro (And.intro (@false_or) (@z8r)) (And.intro (@Nat.sub_self) (@Nat.sub_zero))) (And.intro (And.intro (@zbc) (@zei)) (And.intro (@List.size_toArray.{0}) (And.intro (@z7k) (@zbb))))))
theorem sV : type_of% (And.intro (And.intro (And.intro (@zep) (@zly)) (And.intro (@zhy) (And.intro (@zeq) (@zlz)))) (And.intro (And.intro (@zm0) (And.intro (@zer) (@zm1))) (And.intro (@zes) (And.intro (@zhz) (@zm2))))) := And.intro (And.intro (And.intro (@zep) (@zly)) (And.intro (@zhy) (And.intro (@zeq) (@zlz)))) (And.intro (And.intro (@zm0) (And.intro (@zer) (@zm1))) (And.intro (@zes) (And.intro (@zhz) (@zm2))))
theorem sB : type_of% (And.intro (@sA) (And.intro (@if_true.{1}) (@if_false.{1}))) := And.intro (@sA) (And.intro (@if_true.{1}) (@if_false.{1}))
theorem sG : type_of% (And.intro (@Tr.get_put) (And.intro (@if_true.{1}) (@if_false.{1}))) := And.intro (@Tr.get_put) (And.intro (@if_true.{1}) (@if_false.{1}))
end Go.Hb
end

section
namespace Go.Hb
open Go Go.RowKit
abbrev six (t : Tm) (a : Option Addr) (c : Nat) : List Value := [.int .i64 t.kind, .string t.name, .string t.num, .int .u64 t.bits, .int .i64 t.var, .slice a t.args.length c]
theorem row6 {H : Heap} {p : Nat} {T : TypeId} {x0 x1 x2 x3 x4 x5 : Value} (h : H.get p = some (Blk.row [x0, x1, x2, x3, x4, x5] T)) :
  H.load ⟨p, 0, none⟩ 1 = some [x0] ∧ H.load ⟨p, 1, none⟩ 1 = some [x1] ∧ H.load ⟨p, 2, none⟩ 1 = some [x2] ∧ H.load ⟨p, 3, none⟩ 1 = some [x3] ∧ H.load ⟨p, 4, none⟩ 1 = some [x4] ∧ H.load ⟨p, 5, none⟩ 1 = some [x5] ∧
  H.load ⟨p, 0, none⟩ 6 = some [x0, x1, x2, x3, x4, x5] := by
 refine ⟨?_, ?_, ?_, ?_, ?_, ?_, ?_⟩ <;> simp only [Heap.load, Heap.cells, h] <;> rfl
theorem new1 {H : Heap} (hw : H.wf) (A : Blk) : ∃ H2, H.new (some A) = H2 ∧ HX H H2 ∧ H2.get H.next = some A ∧ H2.next = H.next + 1 ∧ H2.wf := by
 have hx := (HX.refl hw).new (some A)
 exact ⟨_, rfl, hx, z0p, rfl, hx.wf⟩
theorem new2 {H : Heap} (hw : H.wf) (A B : Blk) : ∃ H2, (H.new (some A)).new (some B) = H2 ∧ HX H H2 ∧ H2.get H.next = some A ∧ H2.get (H.next + 1) = some B ∧ H2.next = H.next + 2 ∧ H2.wf := by
 have hx := ((HX.refl hw).new (some A)).new (some B)
 refine ⟨_, rfl, hx, ?_, ?_, rfl, hx.wf⟩
 ·rw [get_new, if_neg (by show H.next ≠ H.next + 1; omega), get_new, if_pos rfl]
 ·rw [get_new]; exact if_pos rfl
theorem HX.get {H H' : Heap} (h : HX H H') (hw : H.wf) {p : Nat} {B : Blk} (hp : H.get p = some B) : H'.get p = some B := by
 rw [h.keep p (hw p B hp)]; exact hp
theorem HX.lt {H H' : Heap} (h : HX H H') (hw : H.wf) {p : Nat} {B : Blk} (hp : H.get p = some B) : p < H'.next := Nat.lt_of_lt_of_le (hw p B hp) h.next
theorem RepT.six {H : Heap} {t : Tm} {cs : List Value} (r : RepT H t cs) : ∃ a c cells, cs = six t a c ∧ i64 t.kind ∧ t.name.size ≤ maxLen ∧ t.num.size ≤ maxLen ∧ u64 t.bits ∧ i64 t.var ∧ RepL H t.args a c cells := r.inv
theorem RepL.max {H : Heap} {l : List Tm} {a : Option Addr} {c : Nat} {cells : Nat → List Value} (r : RepL H l a c cells) : l.length ≤ 9223372036854775807 := Nat.le_trans r.len r.cap
theorem RepL.el {H : Heap} {l : List Tm} {a : Option Addr} {c : Nat} {cells : Nat → List Value} (r : RepL H l a c cells) {i : Nat} (h : i < l.length) :
  ∃ b o a' c', a = some ⟨b, o, none⟩ ∧ H.load ⟨b, o + i * 6, none⟩ 6 = some (Hb.six l[i] a' c') ∧ RepT H l[i] (Hb.six l[i] a' c') := by
 obtain ⟨b, o, rfl, hl, hr⟩ := r.at (List.getElem?_eq_getElem h)
 obtain ⟨a', c', cells', hc, -⟩ := hr.six
 rw [hc] at hl hr
 exact ⟨b, o, a', c', rfl, hl, hr⟩
theorem decl {i n : Nat} (h : i < n) : decide ((i : Int) < (n : Int)) = true := decide_eq_true (by omega)
theorem decn {i n : Nat} (h : ¬ i < n) : decide ((i : Int) < (n : Int)) = false := decide_eq_false (by omega)
end Go.Hb
end

section
namespace Go.Hb
open Go Go.RowKit
theorem RepT.len {H : Heap} {t : Tm} {cs : List Value} (r : RepT H t cs) : cs.length = 6 := by obtain ⟨a, c, cells, rfl, -⟩ := r.six; rfl
theorem RepL.of_row {H : Heap} {l : List Tm} {css : Nat → List Value} {b c : Nat} {vs : List Value} {T : TypeId} (g : H.get b = some (.row vs T)) (hv : ∀ i, i < l.length → (vs.drop (i * 6)).take 6 = css i)
  (hr : ∀ i t, l[i]? = some t → RepT H t (css i)) (hl : l.length ≤ c) (hm : c ≤ maxLen) : RepL H l (some ⟨b, 0, none⟩) c css := by
 refine ⟨hl, hm, (fun h => by cases h), (fun i ad hi ha => ?_), hr⟩
 cases ha
 refine ⟨rfl, ?_⟩
 have hlen := (hr i l[i] (List.getElem?_eq_getElem hi)).len
 unfold Heap.load Heap.cells
 simp only [g, Nat.zero_add, hv i hi]
 rw [if_pos (by rw [Nat.beq_eq]; exact hlen)]
theorem RepL.two {H : Heap} {t t' : Tm} {cs cs' : List Value} {b : Nat} {T : TypeId} (r : RepT H t cs) (r' : RepT H t' cs') (g : H.get b = some (.row (cs ++ cs') T)) :
  RepL H [t, t'] (some ⟨b, 0, none⟩) 2 (fun i => if i = 0 then cs else cs') := by
 refine RepL.of_row g (fun i hi => ?_) (fun i u hu => ?_) (Nat.le_refl _) (by simp [maxLen])
 ·have h1 := r.len
  have h2 := r'.len
  match i, hi with
  | 0, _ => simp [h1]
  | 1, _ => simp [h1, h2]; exact List.take_of_length_le (by omega)
 ·match i, hu with
  | 0, hu => cases hu; exact r
  | 1, hu => cases hu; exact r'
end Go.Hb
end

section
namespace Go.Hb
open Go Go.RowKit
def Rg (a b : Nat) : Nat → Prop := fun n => a ≤ n ∧ n < b
structure HK (S : Nat → Prop) (H H' : Heap) : Prop where
 next : H.next ≤ H'.next
 keep : ∀ i, i < H.next → ¬ S i → H'.get i = H.get i
 wf : H'.wf
theorem HX.hk {H H' : Heap} (h : HX H H') (S : Nat → Prop) : HK S H H' := ⟨h.next, fun i hi _ => h.keep i hi, h.wf⟩
theorem HK.refl {S : Nat → Prop} {H : Heap} (h : H.wf) : HK S H H := (HX.refl h).hk S
theorem HK.trans {S : Nat → Prop} {A B C : Heap} (h : HK S A B) (k : HK S B C) : HK S A C :=
 ⟨Nat.le_trans h.next k.next, fun i hi hs => by rw [k.keep i (Nat.lt_of_lt_of_le hi h.next) hs, h.keep i hi hs], k.wf⟩
theorem HK.sub {S S' : Nat → Prop} {A B : Heap} (h : HK S A B) (hs : ∀ n, n < A.next → S n → S' n) : HK S' A B := ⟨h.next, fun i hi hn => h.keep i hi fun q => hn (hs i hi q), h.wf⟩
theorem HK.put {S : Nat → Prop} {A H : Heap} (h : HK S A H) {i : Nat} (hi : S i ∨ A.next ≤ i) (hl : i < H.next) (B : Option Blk) : HK S A (H.put i B) := by
 refine ⟨h.next, fun j hj hs => ?_, fun j C hC => ?_⟩
 ·rw [Heap.get_put, if_neg (fun e => by subst e; rcases hi with hi | hi; exact hs hi; omega)]; exact h.keep j hj hs
 ·rw [Heap.get_put] at hC
  show j < H.next
  by_cases hj : j = i
  ·omega
  ·rw [if_neg hj] at hC; exact h.wf j C hC
theorem HK.new {S : Nat → Prop} {A H : Heap} (h : HK S A H) (B : Option Blk) : HK S A (H.new B) := h.trans (((HX.refl h.wf).new B).hk S)
theorem HK.bump {S : Nat → Prop} {A H : Heap} (h : HK S A H) (k : Nat) : HK S A ⟨H.next + k, H.t⟩ := h.trans (((HX.refl h.wf).bump k).hk S)
theorem HK.get {S : Nat → Prop} {H H' : Heap} (h : HK S H H') (hw : H.wf) {p : Nat} {B : Blk} (hp : H.get p = some B) (hs : ¬ S p) : H'.get p = some B := by
 rw [h.keep p (hw p B hp) hs]; exact hp
theorem HK.hx {S : Nat → Prop} {H H' : Heap} (h : HK S H H') (hs : ∀ n, n < H.next → ¬ S n) : HX H H' := ⟨h.next, fun i hi => h.keep i hi (hs i hi), h.wf⟩
theorem HX.then {S : Nat → Prop} {A B C : Heap} (h : HX A B) (k : HK S B C) (hs : ∀ n, n < A.next → ¬ S n) : HX A C :=
 ⟨Nat.le_trans h.next k.next, fun i hi => by rw [k.keep i (Nat.lt_of_lt_of_le hi h.next) (hs i hi), h.keep i hi], k.wf⟩
structure Bd (t : Tm) : Prop where
 kind : i64 t.kind
 name : t.name.size ≤ maxLen
 num : t.num.size ≤ maxLen
 bits : u64 t.bits
 var : i64 t.var
inductive FL (H : Heap) (T : TypeId) : (Nat → Prop) → List Tm → Option Addr → Nat → Prop
 | nil (S : Nat → Prop) : FL H T S [] none 0
 | row (S : Nat → Prop) (l : List Tm) (b c : Nat) (cells : List Value) (Si : Nat → Nat → Prop) (ai : Nat → Option Addr) (ci : Nat → Nat) : l.length ≤ c → c ≤ maxLen → H.get b = some (.row cells T) → l.length * 6 ≤ cells.length →
   (∀ (i : Nat) (u : Tm), l[i]? = some u → (cells.drop (i * 6)).take 6 = six u (ai i) (ci i)) → (∀ (i : Nat) (u : Tm), l[i]? = some u → Bd u) → S b → (∀ i, i < l.length → ¬ Si i b) → (∀ i n, i < l.length → Si i n → S n) →
   (∀ i j n, i < l.length → j < l.length → Si i n → Si j n → i = j) → (∀ (i : Nat) (u : Tm), l[i]? = some u → FL H T (Si i) u.args (ai i) (ci i)) → FL H T S l (some ⟨b, 0, none⟩) c
theorem FL.sub {H : Heap} {T : TypeId} {S S' : Nat → Prop} {l : List Tm} {a : Option Addr} {c : Nat} (h : FL H T S l a c) (hs : ∀ n, S n → S' n) : FL H T S' l a c := by
 cases h with
 | nil => exact .nil _
 | row _ _ b c cells Si ai ci h1 h2 h3 h4 h5 h6 h7 h8 h9 h10 h11 => exact .row S' l b c cells Si ai ci h1 h2 h3 h4 h5 h6 (hs _ h7) h8 (fun i n hi hn => hs _ (h9 i n hi hn)) h10 h11
theorem FL.heap {H H' : Heap} {T : TypeId} {S : Nat → Prop} {l : List Tm} {a : Option Addr} {c : Nat} (h : FL H T S l a c) : (∀ n, S n → n < H.next → H'.get n = H.get n) → H.wf → FL H' T S l a c := by
 induction h with
 | nil => intro _ _; exact .nil _
 | row S l b c cells Si ai ci h1 h2 h3 h4 h5 h6 h7 h8 h9 h10 h11 ih =>
  intro hk hw
  exact .row S l b c cells Si ai ci h1 h2 (by rw [hk b h7 (hw b _ h3)]; exact h3) h4 h5 h6 h7 h8 h9 h10 (fun i u hu => ih i u hu (fun n hn => hk n (h9 i n (List.getElem?_eq_some_iff.1 hu).1 hn)) hw)
theorem FL.keep {H H' : Heap} {T : TypeId} {S : Nat → Prop} {l : List Tm} {a : Option Addr} {c : Nat} (h : FL H T S l a c) (hx : HX H H') (hw : H.wf) : FL H' T S l a c := h.heap (fun n _ hl => hx.keep n hl) hw
theorem FL.beside {H H' : Heap} {T : TypeId} {S S' : Nat → Prop} {l : List Tm} {a : Option Addr} {c : Nat} (h : FL H T S l a c) (hx : HK S' H H') (hw : H.wf) (hd : ∀ n, S n → ¬ S' n) : FL H' T S l a c := h.heap (fun n hs hl => hx.keep n hl (hd n hs)) hw
theorem FL.len {H : Heap} {T : TypeId} {S : Nat → Prop} {l : List Tm} {a : Option Addr} {c : Nat} (h : FL H T S l a c) : l.length ≤ c ∧ c ≤ maxLen ∧ (a = none → l = [] ∧ c = 0) := by
 cases h with
 | nil => exact ⟨Nat.le_refl _, Nat.zero_le _, fun _ => ⟨rfl, rfl⟩⟩
 | row _ _ b c cells Si ai ci h1 h2 => exact ⟨h1, h2, fun h => by cases h⟩
theorem FL.rep {H : Heap} {T : TypeId} {S : Nat → Prop} {l : List Tm} {a : Option Addr} {c : Nat} (h : FL H T S l a c) : ∃ cells, RepL H l a c cells := by
 induction h with
 | nil => exact ⟨fun _ => [], Nat.le_refl _, Nat.zero_le _, fun _ => ⟨rfl, rfl⟩, fun i ad hi => by simp at hi, fun i t h => by simp at h⟩
 | row S l b c cells Si ai ci h1 h2 h3 h4 h5 h6 h7 h8 h9 h10 h11 ih =>
  refine ⟨fun i => (cells.drop (i * 6)).take 6, RepL.of_row h3 (fun i hi => rfl) (fun i t ht => ?_) h1 h2⟩
  show RepT H t ((cells.drop (i * 6)).take 6)
  rw [h5 i t ht]
  obtain ⟨cs, rl⟩ := ih i t ht
  have hb := h6 i t ht
  obtain ⟨k, s, u, bb, v, l'⟩ := t
  exact .mk k s u bb v l' (ai i) (ci i) cs hb.kind hb.name hb.num hb.bits hb.var (Nat.le_trans rl.len rl.cap) rl.len rl.cap rl.nil rl.load rl.rep
def RepF (H : Heap) (T : TypeId) (S : Nat → Prop) (t : Tm) (cs : List Value) : Prop := ∃ a c, cs = six t a c ∧ Bd t ∧ FL H T S t.args a c
theorem RepF.rep {H : Heap} {T : TypeId} {S : Nat → Prop} {t : Tm} {cs : List Value} (h : RepF H T S t cs) : RepT H t cs := by
 obtain ⟨a, c, rfl, hb, hf⟩ := h
 obtain ⟨cells, rl⟩ := hf.rep
 obtain ⟨k, s, u, bb, v, l'⟩ := t
 exact .mk k s u bb v l' a c cells hb.kind hb.name hb.num hb.bits hb.var (Nat.le_trans rl.len rl.cap) rl.len rl.cap rl.nil rl.load rl.rep
theorem RepF.keep {H H' : Heap} {T : TypeId} {S : Nat → Prop} {t : Tm} {cs : List Value} (h : RepF H T S t cs) (hx : HX H H') (hw : H.wf) : RepF H' T S t cs := by
 obtain ⟨a, c, e, hb, hf⟩ := h; exact ⟨a, c, e, hb, hf.keep hx hw⟩
theorem RepF.beside {H H' : Heap} {T : TypeId} {S S' : Nat → Prop} {t : Tm} {cs : List Value} (h : RepF H T S t cs) (hx : HK S' H H') (hw : H.wf) (hd : ∀ n, S n → ¬ S' n) : RepF H' T S t cs := by
 obtain ⟨a, c, e, hb, hf⟩ := h; exact ⟨a, c, e, hb, hf.beside hx hw hd⟩
theorem RepF.sub {H : Heap} {T : TypeId} {S S' : Nat → Prop} {t : Tm} {cs : List Value} (h : RepF H T S t cs) (hs : ∀ n, S n → S' n) : RepF H T S' t cs := by
 obtain ⟨a, c, e, hb, hf⟩ := h; exact ⟨a, c, e, hb, hf.sub hs⟩
theorem RepT.bd {H : Heap} {t : Tm} {cs : List Value} (r : RepT H t cs) : Bd t := by
 obtain ⟨a, c, cells, -, b1, b2, b3, b4, b5, -⟩ := r.six
 exact ⟨b1, b2, b3, b4, b5⟩
structure FLs (H : Heap) (T : TypeId) (S : Nat → Prop) (l : List Tm) (cells : List Value) (Si : Nat → Nat → Prop) (ai : Nat → Option Addr) (ci : Nat → Nat) : Prop where
 el : ∀ (i : Nat) (u : Tm), l[i]? = some u → (cells.drop (i * 6)).take 6 = six u (ai i) (ci i)
 bd : ∀ (i : Nat) (u : Tm), l[i]? = some u → Bd u
 sub : ∀ i n, i < l.length → Si i n → S n
 one : ∀ i j n, i < l.length → j < l.length → Si i n → Si j n → i = j
 fl : ∀ (i : Nat) (u : Tm), l[i]? = some u → FL H T (Si i) u.args (ai i) (ci i)
theorem FLs.nil {H : Heap} {T : TypeId} {S : Nat → Prop} {cells : List Value} {Si : Nat → Nat → Prop} {ai : Nat → Option Addr} {ci : Nat → Nat} : FLs H T S [] cells Si ai ci :=
 ⟨fun i u h => by simp at h, fun i u h => by simp at h, fun i n h => by simp at h, fun i j n h => by simp at h, fun i u h => by simp at h⟩
theorem FLs.snoc {H H' : Heap} {T : TypeId} {S S' N : Nat → Prop} {l : List Tm} {cells cells' : List Value} {Si : Nat → Nat → Prop} {ai : Nat → Option Addr} {ci : Nat → Nat} {t : Tm} {a : Option Addr} {c : Nat}
  (h : FLs H T S l cells Si ai ci) (hk : ∀ n, S n → n < H.next → H'.get n = H.get n) (hw : H.wf) (ht : FL H' T N t.args a c) (hb : Bd t) (hN : ∀ n, N n → ¬ S n) (hS : ∀ n, S n → S' n) (hNS : ∀ n, N n → S' n)
  (hc : ∀ i, i < l.length → (cells'.drop (i * 6)).take 6 = (cells.drop (i * 6)).take 6) (hn : (cells'.drop (l.length * 6)).take 6 = six t a c) :
  FLs H' T S' (l ++ [t]) cells' (fun i => if i < l.length then Si i else N) (fun i => if i < l.length then ai i else a) (fun i => if i < l.length then ci i else c) := by
 have key : ∀ (i : Nat) (u : Tm), (l ++ [t])[i]? = some u → (i < l.length ∧ l[i]? = some u) ∨ (i = l.length ∧ u = t) := fun i u hu => by
  by_cases hi : i < l.length
  ·rw [List.getElem?_append_left hi] at hu; exact .inl ⟨hi, hu⟩
  ·rw [List.getElem?_append_right (by omega)] at hu
   have : i - l.length = 0 := by
    have := (List.getElem?_eq_some_iff.1 hu).1
    simp at this; omega
   rw [this] at hu; simp at hu
   exact .inr ⟨by omega, hu.symm⟩
 refine ⟨fun i u hu => ?_, fun i u hu => ?_, fun i n hi hn => ?_, fun i j n hi hj hn hm => ?_, fun i u hu => ?_⟩
 ·rcases key i u hu with ⟨hi, hu⟩ | ⟨rfl, rfl⟩
  ·simp only [hi, if_true]; rw [hc i hi]; exact h.el i u hu
  ·simp only [Nat.lt_irrefl, if_false]; exact hn
 ·rcases key i u hu with ⟨hi, hu⟩ | ⟨rfl, rfl⟩
  ·exact h.bd i u hu
  ·exact hb
 ·by_cases h1 : i < l.length
  ·simp only [h1, if_true] at hn; exact hS n (h.sub i n h1 hn)
  ·simp only [h1, if_false] at hn; exact hNS n hn
 ·simp only [List.length_append, List.length_singleton] at hi hj
  by_cases h1 : i < l.length <;> by_cases h2 : j < l.length
  ·simp only [h1, h2, if_true] at hn hm; exact h.one i j n h1 h2 hn hm
  ·simp only [h1, if_true] at hn; simp only [h2, if_false] at hm; exact absurd (h.sub i n h1 hn) (hN n hm)
  ·simp only [h2, if_true] at hm; simp only [h1, if_false] at hn; exact absurd (h.sub j n h2 hm) (hN n hn)
  ·omega
 ·rcases key i u hu with ⟨hi, hu⟩ | ⟨rfl, rfl⟩
  ·simp only [hi, if_true]; exact (h.fl i u hu).heap (fun n hn hl => hk n (h.sub i n hi hn) hl) hw
  ·simp only [Nat.lt_irrefl, if_false]; exact ht
theorem FLs.heap {H H' : Heap} {T : TypeId} {S : Nat → Prop} {l : List Tm} {cells : List Value} {Si : Nat → Nat → Prop} {ai : Nat → Option Addr} {ci : Nat → Nat} (h : FLs H T S l cells Si ai ci)
  (hk : ∀ n, S n → n < H.next → H'.get n = H.get n) (hw : H.wf) : FLs H' T S l cells Si ai ci :=
 ⟨h.el, h.bd, h.sub, h.one, fun i u hu => (h.fl i u hu).heap (fun n hn hl => hk n (h.sub i n (List.getElem?_eq_some_iff.1 hu).1 hn) hl) hw⟩
theorem FLs.row {H : Heap} {T : TypeId} {S S' : Nat → Prop} {l : List Tm} {cells : List Value} {Si : Nat → Nat → Prop} {ai : Nat → Option Addr} {ci : Nat → Nat} {b c : Nat} (h : FLs H T S l cells Si ai ci)
  (hl : l.length ≤ c) (hc : c ≤ maxLen) (hg : H.get b = some (.row cells T)) (hn : l.length * 6 ≤ cells.length) (hb : S' b) (hnb : ¬ S b) (hS : ∀ n, S n → S' n) : FL H T S' l (some ⟨b, 0, none⟩) c :=
 .row S' l b c cells Si ai ci hl hc hg hn h.el h.bd hb (fun i hi hs => hnb (h.sub i b hi hs)) (fun i n hi hs => hS n (h.sub i n hi hs)) h.one h.fl
theorem FLs.inv {H : Heap} {T : TypeId} {S : Nat → Prop} {l : List Tm} {b c : Nat} {a : Option Addr} (h : FL H T S l a c) (h0 : l ≠ []) : ∃ b cells Si ai ci, a = some ⟨b, 0, none⟩ ∧ l.length ≤ c ∧ c ≤ maxLen ∧ H.get b = some (.row cells T) ∧ l.length * 6 ≤ cells.length ∧
  S b ∧ (∀ i, i < l.length → ¬ Si i b) ∧ FLs H T S l cells Si ai ci := by
 cases h with
 | nil => exact absurd rfl h0
 | row _ _ b c cells Si ai ci h1 h2 h3 h4 h5 h6 h7 h8 h9 h10 h11 => exact ⟨b, cells, Si, ai, ci, rfl, h1, h2, h3, h4, h7, h8, ⟨h5, h6, h9, h10, h11⟩⟩
end Go.Hb
end

section
namespace Go.Hb
open Go Go.RowKit
section
variable {P : Program}
theorem zbi {N : Nat} {w0 : World} {τ : Nat → Value} {σ : Nat → Loc} {H : Heap} {w : World} {f : FuncId} {args : Array Value} {v : Value} (hv : flat v = true)
  (h : Calls P f args w fun e w' => e = .returned v ∧ Below w.heap.size w w') (hH : HR P N w0 τ σ H w) :
  Calls P f args w fun e w' => ∃ σ', EnR σ' τ (.ret v) e ∧ HR P N w0 τ σ' H w' ∧ Step σ H w σ' H w' := by
 refine h.mono fun e w' ⟨he, hB⟩ => ?_
 subst he
 have hlt := hH.lt
 refine ⟨σ, .flat _ hv, ⟨hH.below.trans (hB.mono hH.size), Nat.le_trans hH.size hB.size, hH.fresh, fun i B hi => (hH.blk i B hi).world fun b S es hb => hB.block b (hlt i b S es hb), hH.inj,
  fun i b S es hi => Nat.lt_of_lt_of_le (hlt i b S es hi) hB.size⟩, Nat.le_refl _, Ext.refl σ, fun i b S es hi => .inr (.inl ⟨S, es, hi⟩), fun b hb _ => hB.block b hb, hB.size, fun _ _ hg => ⟨rfl, hg⟩⟩
def kLaw (fa fv : FuncId) (f : FuncId) (args : List Value) (H : Heap) : Option (En × Heap) :=
 if f = fa then (match args with | [] => some (.ret (.bool true), H) | _ => none)
 else if f = fv then (match args with | [.string s] => if s.size ≤ 9223372036854775807 then some (.ret (.bool (Lib.validD s.data.toList)), H) else none | _ => none)
 else none
def okLaw (mask : Nat) (fa fv : FuncId) : Ok := ⟨mask, kLaw fa fv⟩
theorem zi0 {N mask : Nat} {w0 : World} {fa fv : FuncId} (hok : ((List.range P.funcs.size).all fun f => !mask.testBit f || okFn P f) = true)
  (ha : ∀ w, Calls P fa #[] w fun e w' => e = .returned (.bool true) ∧ Below w.heap.size w w')
  (hv : ∀ (s : ByteArray) w, s.size ≤ 9223372036854775807 → Below N w0 w → Calls P fv #[.string s] w fun e w' => e = .returned (.bool (Lib.validD s.data.toList)) ∧ Below w.heap.size w w') : OkFns P N w0 (okLaw mask fa fv) := by
 refine ⟨z8n hok, fun τ f args args' H en H' w σ _ hk hl hH _ => ?_⟩
 simp only [okLaw, kLaw] at hk
 split at hk
 ·rename_i hf
  subst hf
  split at hk
  ·cases hk
   have : args' = #[] := by
    have := hl.1
    simp at this
    exact Array.eq_empty_of_size_eq_zero this.symm
   subst this
   exact zbi rfl (ha w) hH
  ·cases hk
 ·split at hk
  ·rename_i hf
   subst hf
   split at hk
   ·rename_i s
    split at hk
    ·rename_i hs
     cases hk
     have hlen : args'.size = 1 := by have := hl.1; simpa using this.symm
     obtain ⟨v, rfl⟩ : ∃ v, args' = #[v] := by
      match args', hlen with
      | ⟨[v]⟩, _ => exact ⟨v, rfl⟩
     have hvr := hl.2 0 (.string s) v rfl rfl
     rw [VR.flat_eq hvr rfl]
     exact zbi rfl (hv s w hs hH.below) hH
    ·cases hk
   ·cases hk
  ·cases hk
theorem zi1 {mask : Nat} {W : World} {fa fv f : FuncId} {args : Array Value} (hm : P.follows .mixedOrders = true) (hok : ((List.range P.funcs.size).all fun f => !mask.testBit f || okFn P f) = true)
  (ha : ∀ w, Calls P fa #[] w fun e w' => e = .returned (.bool true) ∧ Below w.heap.size w w')
  (hv : ∀ (s : ByteArray) w, s.size ≤ 9223372036854775807 → Below W.heap.size W w → Calls P fv #[.string s] w fun e w' => e = .returned (.bool (Lib.validD s.data.toList)) ∧ Below w.heap.size w w')
  (h : EvF P (okLaw mask fa fv) f (args.toList.map (abV P W)) (heapW P W) fun v _ => v = .bool true) : Calls P f args W fun e W' => e = .returned (.bool true) ∧ Below W.heap.size W W' :=
 zd1 hm (zi0 hok ha hv) h
theorem zki {mask : Nat} {fa fv : FuncId} {H : Heap} (hw : H.wf) : EvF P (okLaw mask fa fv) fa [] H fun v H' => v = .bool true ∧ HX H H' :=
 EvF.know (v := .bool true) (H' := H) (by simp [okLaw, kLaw]) ⟨rfl, HX.refl hw⟩
theorem zkj {mask : Nat} {fa fv : FuncId} {H : Heap} (hne : fv ≠ fa) (hw : H.wf) {s : ByteArray} (hs : s.size ≤ 9223372036854775807) : EvF P (okLaw mask fa fv) fv [.string s] H fun v H' => v = .bool (Lib.validD s.data.toList) ∧ HX H H' :=
 EvF.know (v := .bool (Lib.validD s.data.toList)) (H' := H) (by simp [okLaw, kLaw, hne, hs]) ⟨rfl, HX.refl hw⟩
end
end Go.Hb
end

section
namespace Go.Proofs.hq
open Go Go.RowKit Go.Hb
theorem cl5 {d : Option Tmp} {args : Array Operand} {ats : Array TypeId} {ty : TypeId} {pos : String} {af : Array Edge} {g : Option (Nat × Bool)} {tm : Tr Value} {H : Heap} : dop Tryd.prog ⟨d, .call ⟨.value (.func 5), args, ats⟩, ty, pos, af, g⟩ (ev tm) H = some (.call 5 (args.toList.map (ev tm))) := z08 (by kernel_rfl)
theorem ld25 {ad : Addr} {H : Heap} : dLoad Tryd.prog 25 (.pointer (some ad)) H = dloadA 6 (H.load ad 6) H := z2q (by kernel_rfl) (by kernel_rfl)
theorem zr25 : zerosOf Tryd.prog 25 = some [.int .i64 0, .string ByteArray.empty, .string ByteArray.empty, .int .u64 0, .int .i64 0, .slice none 0 0] := by kernel_rfl
theorem st25 {b o : Nat} {H : Heap} {cs : List Value} : dStore Tryd.prog 25 (.pointer (some ⟨b, o, none⟩)) (.agg ⟨cs⟩) H = dStoreIf (Nat.beq cs.length 6) ⟨b, o, none⟩ cs H (H.get b) := z1p (by kernel_rfl) (by kernel_rfl)
theorem cl7 {d : Option Tmp} {args : Array Operand} {ats : Array TypeId} {ty : TypeId} {pos : String} {af : Array Edge} {g : Option (Nat × Bool)} {tm : Tr Value} {H : Heap} : dop Tryd.prog ⟨d, .call ⟨.value (.func 7), args, ats⟩, ty, pos, af, g⟩ (ev tm) H = some (.call 7 (args.toList.map (ev tm))) := z08 (by kernel_rfl)
theorem zr30 : zerosOf Tryd.prog 30 = some [.int .i64 0, .int .i64 0, .string ByteArray.empty, .string ByteArray.empty, .int .u64 0, .int .i64 0, .slice none 0 0, .slice none 0 0] := by kernel_rfl
theorem st30 {b o : Nat} {H : Heap} {cs : List Value} : dStore Tryd.prog 30 (.pointer (some ⟨b, o, none⟩)) (.agg ⟨cs⟩) H = dStoreIf (Nat.beq cs.length 8) ⟨b, o, none⟩ cs H (H.get b) := z1p (by kernel_rfl) (by kernel_rfl)
theorem ld30 {ad : Addr} {H : Heap} : dLoad Tryd.prog 30 (.pointer (some ad)) H = dloadA 8 (H.load ad 8) H := z2q (by kernel_rfl) (by kernel_rfl)
theorem cl9 {d : Option Tmp} {args : Array Operand} {ats : Array TypeId} {ty : TypeId} {pos : String} {af : Array Edge} {g : Option (Nat × Bool)} {tm : Tr Value} {H : Heap} : dop Tryd.prog ⟨d, .call ⟨.value (.func 9), args, ats⟩, ty, pos, af, g⟩ (ev tm) H = some (.call 9 (args.toList.map (ev tm))) := z08 (by kernel_rfl)
theorem cl12 {d : Option Tmp} {args : Array Operand} {ats : Array TypeId} {ty : TypeId} {pos : String} {af : Array Edge} {g : Option (Nat × Bool)} {tm : Tr Value} {H : Heap} : dop Tryd.prog ⟨d, .call ⟨.value (.func 12), args, ats⟩, ty, pos, af, g⟩ (ev tm) H = some (.call 12 (args.toList.map (ev tm))) := z08 (by kernel_rfl)
theorem cl13 {d : Option Tmp} {args : Array Operand} {ats : Array TypeId} {ty : TypeId} {pos : String} {af : Array Edge} {g : Option (Nat × Bool)} {tm : Tr Value} {H : Heap} : dop Tryd.prog ⟨d, .call ⟨.value (.func 13), args, ats⟩, ty, pos, af, g⟩ (ev tm) H = some (.call 13 (args.toList.map (ev tm))) := z08 (by kernel_rfl)
theorem cl14 {d : Option Tmp} {args : Array Operand} {ats : Array TypeId} {ty : TypeId} {pos : String} {af : Array Edge} {g : Option (Nat × Bool)} {tm : Tr Value} {H : Heap} : dop Tryd.prog ⟨d, .call ⟨.value (.func 14), args, ats⟩, ty, pos, af, g⟩ (ev tm) H = some (.call 14 (args.toList.map (ev tm))) := z08 (by kernel_rfl)
theorem zr48 : zerosOf Tryd.prog 48 = some [.int .i64 0, .string ByteArray.empty, .string ByteArray.empty, .int .u64 0, .int .i64 0, .slice none 0 0, .int .i64 0, .int .i64 0, .string ByteArray.empty, .string ByteArray.empty, .int .u64 0, .int .i64 0, .slice none 0 0, .slice none 0 0, .int .i64 0] := by kernel_rfl
theorem st48 {b o : Nat} {H : Heap} {cs : List Value} : dStore Tryd.prog 48 (.pointer (some ⟨b, o, none⟩)) (.agg ⟨cs⟩) H = dStoreIf (Nat.beq cs.length 15) ⟨b, o, none⟩ cs H (H.get b) := z1p (by kernel_rfl) (by kernel_rfl)
theorem ld48 {ad : Addr} {H : Heap} : dLoad Tryd.prog 48 (.pointer (some ad)) H = dloadA 15 (H.load ad 15) H := z2q (by kernel_rfl) (by kernel_rfl)
theorem cl15 {d : Option Tmp} {args : Array Operand} {ats : Array TypeId} {ty : TypeId} {pos : String} {af : Array Edge} {g : Option (Nat × Bool)} {tm : Tr Value} {H : Heap} : dop Tryd.prog ⟨d, .call ⟨.value (.func 15), args, ats⟩, ty, pos, af, g⟩ (ev tm) H = some (.call 15 (args.toList.map (ev tm))) := z08 (by kernel_rfl)
theorem cl16 {d : Option Tmp} {args : Array Operand} {ats : Array TypeId} {ty : TypeId} {pos : String} {af : Array Edge} {g : Option (Nat × Bool)} {tm : Tr Value} {H : Heap} : dop Tryd.prog ⟨d, .call ⟨.value (.func 16), args, ats⟩, ty, pos, af, g⟩ (ev tm) H = some (.call 16 (args.toList.map (ev tm))) := z08 (by kernel_rfl)
theorem cl17 {d : Option Tmp} {args : Array Operand} {ats : Array TypeId} {ty : TypeId} {pos : String} {af : Array Edge} {g : Option (Nat × Bool)} {tm : Tr Value} {H : Heap} : dop Tryd.prog ⟨d, .call ⟨.value (.func 17), args, ats⟩, ty, pos, af, g⟩ (ev tm) H = some (.call 17 (args.toList.map (ev tm))) := z08 (by kernel_rfl)
theorem zbj {v0 : Value} {H : Heap} : dBuildS Tryd.prog 23 1 [(0, v0)] H = dBs 25 1 (([(0, v0)] : List (Nat × Value)).all fun p => p.2.cells.toList.all one) (layC [(0, 6)] [.int .i64 0, .string ByteArray.empty, .string ByteArray.empty, .int .u64 0, .int .i64 0, .slice none 0 0] (([(0, v0)] : List (Nat × Value)).map fun p => (p.1, p.2.cells.toList))) H := z1q (size := 6) (by kernel_rfl) rfl
theorem bd30 {vs : List (Nat × Value)} {H : Heap} : dBuild Tryd.prog 30 vs H = dBd (vs.all fun p => p.2.cells.toList.all one) (layC [(0, 1), (1, 6), (7, 1)] [.int .i64 0, .int .i64 0, .string ByteArray.empty, .string ByteArray.empty, .int .u64 0, .int .i64 0, .slice none 0 0, .slice none 0 0] (vs.map fun p => (p.1, p.2.cells.toList))) H := z38 (by kernel_rfl) (by kernel_rfl)
theorem bd48 {vs : List (Nat × Value)} {H : Heap} : dBuild Tryd.prog 48 vs H = dBd (vs.all fun p => p.2.cells.toList.all one) (layC [(0, 6), (6, 8), (14, 1)] [.int .i64 0, .string ByteArray.empty, .string ByteArray.empty, .int .u64 0, .int .i64 0, .slice none 0 0, .int .i64 0, .int .i64 0, .string ByteArray.empty, .string ByteArray.empty, .int .u64 0, .int .i64 0, .slice none 0 0, .slice none 0 0, .int .i64 0] (vs.map fun p => (p.1, p.2.cells.toList))) H := z38 (by kernel_rfl) (by kernel_rfl)
theorem z0v {b o : Nat} {H : Heap} : dFieldAddr Tryd.prog 25 (.pointer (some ⟨b, o, none⟩)) 5 H = some (.val (.pointer (some ⟨b, o + 5, none⟩)) H) := z05 (u := 23) (by kernel_rfl) (by kernel_rfl)
theorem st23 {b o : Nat} {H : Heap} {a : Option Addr} {n c : Nat} : dStore Tryd.prog 23 (.pointer (some ⟨b, o, none⟩)) (.slice a n c) H = dStoreB ⟨b, o, none⟩ [.slice a n c] H (H.get b) := z2v (by kernel_rfl) (by kernel_rfl)
theorem ld23 {ad : Addr} {H : Heap} : dLoad Tryd.prog 23 (.pointer (some ad)) H = dload1 (H.load ad 1) H := z09 (by kernel_rfl)
theorem ln23 {ty : TypeId} {a : Option Addr} {n c : Nat} {H : Heap} : dLn Tryd.prog 23 ty (.slice a n c) H = some (.val (.int .i64 n) H) := z1a (e := 25) (by kernel_rfl)
theorem ia23 {b o n c i : Nat} {k : IntKind} {H : Heap} (h : i < n) : dIndexAddr Tryd.prog 23 (.slice (some ⟨b, o, none⟩) n c) (.int k (i : Int)) H = some (.val (.pointer (some ⟨b, o + i * 6, none⟩)) H) := z14 (e := 25) (by kernel_rfl) (by kernel_rfl) (by kernel_rfl) h
theorem iz23 {b o n c : Nat} {k : IntKind} {i : Int} {H : Heap} (h0 : 0 ≤ i) (h : i < n) : dIndexAddr Tryd.prog 23 (.slice (some ⟨b, o, none⟩) n c) (.int k i) H = some (.val (.pointer (some ⟨b, o + i.toNat * 6, none⟩)) H) := z4m (e := 25) (by kernel_rfl) (by kernel_rfl) (by kernel_rfl) h0 h
theorem ap23 : apOk Tryd.prog 23 25 6 := z7e (by kernel_rfl)
theorem zr32 : zerosOf Tryd.prog 32 = some [.nilIface] := by kernel_rfl
theorem cl24 {d : Option Tmp} {args : Array Operand} {ats : Array TypeId} {ty : TypeId} {pos : String} {af : Array Edge} {g : Option (Nat × Bool)} {tm : Tr Value} {H : Heap} : dop Tryd.prog ⟨d, .call ⟨.value (.func 24), args, ats⟩, ty, pos, af, g⟩ (ev tm) H = some (.call 24 (args.toList.map (ev tm))) := z08 (by kernel_rfl)
theorem st32 {b o : Nat} {H : Heap} {u : TypeId} {v : Value} : dStore Tryd.prog 32 (.pointer (some ⟨b, o, none⟩)) (.iface u v) H = dStoreB ⟨b, o, none⟩ [.iface u v] H (H.get b) := z9s (by kernel_rfl) (by kernel_rfl)
theorem zp1 {b o : Nat} {H : Heap}  : dStore Tryd.prog 32 (.pointer (some ⟨b, o, none⟩)) (.nilIface) H = dStoreB ⟨b, o, none⟩ [.nilIface] H (H.get b) := z6l (by kernel_rfl) (by kernel_rfl)
theorem cl27 {d : Option Tmp} {args : Array Operand} {ats : Array TypeId} {ty : TypeId} {pos : String} {af : Array Edge} {g : Option (Nat × Bool)} {tm : Tr Value} {H : Heap} : dop Tryd.prog ⟨d, .call ⟨.value (.func 27), args, ats⟩, ty, pos, af, g⟩ (ev tm) H = some (.call 27 (args.toList.map (ev tm))) := z08 (by kernel_rfl)
theorem cl29 {d : Option Tmp} {args : Array Operand} {ats : Array TypeId} {ty : TypeId} {pos : String} {af : Array Edge} {g : Option (Nat × Bool)} {tm : Tr Value} {H : Heap} : dop Tryd.prog ⟨d, .call ⟨.value (.func 29), args, ats⟩, ty, pos, af, g⟩ (ev tm) H = some (.call 29 (args.toList.map (ev tm))) := z08 (by kernel_rfl)
theorem cl28 {d : Option Tmp} {args : Array Operand} {ats : Array TypeId} {ty : TypeId} {pos : String} {af : Array Edge} {g : Option (Nat × Bool)} {tm : Tr Value} {H : Heap} : dop Tryd.prog ⟨d, .call ⟨.value (.func 28), args, ats⟩, ty, pos, af, g⟩ (ev tm) H = some (.call 28 (args.toList.map (ev tm))) := z08 (by kernel_rfl)
theorem cl30 {d : Option Tmp} {args : Array Operand} {ats : Array TypeId} {ty : TypeId} {pos : String} {af : Array Edge} {g : Option (Nat × Bool)} {tm : Tr Value} {H : Heap} : dop Tryd.prog ⟨d, .call ⟨.value (.func 30), args, ats⟩, ty, pos, af, g⟩ (ev tm) H = some (.call 30 (args.toList.map (ev tm))) := z08 (by kernel_rfl)
theorem ld32 {ad : Addr} {H : Heap} : dLoad Tryd.prog 32 (.pointer (some ad)) H = dload1 (H.load ad 1) H := z09 (by kernel_rfl)
theorem z8v {b o : Nat} {H : Heap} : dFieldAddr Tryd.prog 30 (.pointer (some ⟨b, o, none⟩)) 1 H = some (.val (.pointer (some ⟨b, o + 1, none⟩)) H) := z05 (u := 25) (by kernel_rfl) (by kernel_rfl)
theorem z1k {b o : Nat} {H : Heap} : dFieldAddr Tryd.prog 30 (.pointer (some ⟨b, o, none⟩)) 0 H = some (.val (.pointer (some ⟨b, o + 0, none⟩)) H) := z05 (u := 3) (by kernel_rfl) (by kernel_rfl)
theorem ld3 {ad : Addr} {H : Heap} : dLoad Tryd.prog 3 (.pointer (some ad)) H = dload1 (H.load ad 1) H := z09 (by kernel_rfl)
theorem z3v {b o : Nat} {H : Heap} : dFieldAddr Tryd.prog 30 (.pointer (some ⟨b, o, none⟩)) 2 H = some (.val (.pointer (some ⟨b, o + 7, none⟩)) H) := z05 (u := 28) (by kernel_rfl) (by kernel_rfl)
theorem ld28 {ad : Addr} {H : Heap} : dLoad Tryd.prog 28 (.pointer (some ad)) H = dload1 (H.load ad 1) H := z09 (by kernel_rfl)
theorem ln28 {ty : TypeId} {a : Option Addr} {n c : Nat} {H : Heap} : dLn Tryd.prog 28 ty (.slice a n c) H = some (.val (.int .i64 n) H) := z1a (e := 30) (by kernel_rfl)
theorem ia28 {b o n c i : Nat} {k : IntKind} {H : Heap} (h : i < n) : dIndexAddr Tryd.prog 28 (.slice (some ⟨b, o, none⟩) n c) (.int k (i : Int)) H = some (.val (.pointer (some ⟨b, o + i * 8, none⟩)) H) := z14 (e := 30) (by kernel_rfl) (by kernel_rfl) (by kernel_rfl) h
theorem bd25 {vs : List (Nat × Value)} {H : Heap} : dBuild Tryd.prog 25 vs H = dBd (vs.all fun p => p.2.cells.toList.all one) (layC [(0, 1), (1, 1), (2, 1), (3, 1), (4, 1), (5, 1)] [.int .i64 0, .string ByteArray.empty, .string ByteArray.empty, .int .u64 0, .int .i64 0, .slice none 0 0] (vs.map fun p => (p.1, p.2.cells.toList))) H := z38 (by kernel_rfl) (by kernel_rfl)
theorem ld4 {ad : Addr} {H : Heap} : dLoad Tryd.prog 4 (.pointer (some ad)) H = dload1 (H.load ad 1) H := z09 (by kernel_rfl)
theorem zm3 {b o : Nat} {H : Heap} : dFieldAddr Tryd.prog 75 (.pointer (some ⟨b, o, none⟩)) 0 H = some (.val (.pointer (some ⟨b, o + 0, none⟩)) H) := z05 (u := 25) (by kernel_rfl) (by kernel_rfl)
theorem z0m {b o : Nat} {H : Heap} : dFieldAddr Tryd.prog 25 (.pointer (some ⟨b, o, none⟩)) 0 H = some (.val (.pointer (some ⟨b, o + 0, none⟩)) H) := z05 (u := 3) (by kernel_rfl) (by kernel_rfl)
theorem z2e {b o : Nat} {H : Heap} : dFieldAddr Tryd.prog 25 (.pointer (some ⟨b, o, none⟩)) 1 H = some (.val (.pointer (some ⟨b, o + 1, none⟩)) H) := z05 (u := 9) (by kernel_rfl) (by kernel_rfl)
theorem ld9 {ad : Addr} {H : Heap} : dLoad Tryd.prog 9 (.pointer (some ad)) H = dload1 (H.load ad 1) H := z09 (by kernel_rfl)
theorem z8w {b o : Nat} {H : Heap} : dFieldAddr Tryd.prog 25 (.pointer (some ⟨b, o, none⟩)) 2 H = some (.val (.pointer (some ⟨b, o + 2, none⟩)) H) := z05 (u := 9) (by kernel_rfl) (by kernel_rfl)
theorem zbk {b o : Nat} {H : Heap} : dFieldAddr Tryd.prog 25 (.pointer (some ⟨b, o, none⟩)) 3 H = some (.val (.pointer (some ⟨b, o + 3, none⟩)) H) := z05 (u := 22) (by kernel_rfl) (by kernel_rfl)
theorem ld22 {ad : Addr} {H : Heap} : dLoad Tryd.prog 22 (.pointer (some ad)) H = dload1 (H.load ad 1) H := z09 (by kernel_rfl)
theorem z7m {b o : Nat} {H : Heap} : dFieldAddr Tryd.prog 25 (.pointer (some ⟨b, o, none⟩)) 4 H = some (.val (.pointer (some ⟨b, o + 4, none⟩)) H) := z05 (u := 3) (by kernel_rfl) (by kernel_rfl)
theorem cl35 {d : Option Tmp} {args : Array Operand} {ats : Array TypeId} {ty : TypeId} {pos : String} {af : Array Edge} {g : Option (Nat × Bool)} {tm : Tr Value} {H : Heap} : dop Tryd.prog ⟨d, .call ⟨.value (.func 35), args, ats⟩, ty, pos, af, g⟩ (ev tm) H = some (.call 35 (args.toList.map (ev tm))) := z08 (by kernel_rfl)
theorem cl36 {d : Option Tmp} {args : Array Operand} {ats : Array TypeId} {ty : TypeId} {pos : String} {af : Array Edge} {g : Option (Nat × Bool)} {tm : Tr Value} {H : Heap} : dop Tryd.prog ⟨d, .call ⟨.value (.func 36), args, ats⟩, ty, pos, af, g⟩ (ev tm) H = some (.call 36 (args.toList.map (ev tm))) := z08 (by kernel_rfl)
theorem cl37 {d : Option Tmp} {args : Array Operand} {ats : Array TypeId} {ty : TypeId} {pos : String} {af : Array Edge} {g : Option (Nat × Bool)} {tm : Tr Value} {H : Heap} : dop Tryd.prog ⟨d, .call ⟨.value (.func 37), args, ats⟩, ty, pos, af, g⟩ (ev tm) H = some (.call 37 (args.toList.map (ev tm))) := z08 (by kernel_rfl)
theorem cl38 {d : Option Tmp} {args : Array Operand} {ats : Array TypeId} {ty : TypeId} {pos : String} {af : Array Edge} {g : Option (Nat × Bool)} {tm : Tr Value} {H : Heap} : dop Tryd.prog ⟨d, .call ⟨.value (.func 38), args, ats⟩, ty, pos, af, g⟩ (ev tm) H = some (.call 38 (args.toList.map (ev tm))) := z08 (by kernel_rfl)
theorem cl39 {d : Option Tmp} {args : Array Operand} {ats : Array TypeId} {ty : TypeId} {pos : String} {af : Array Edge} {g : Option (Nat × Bool)} {tm : Tr Value} {H : Heap} : dop Tryd.prog ⟨d, .call ⟨.value (.func 39), args, ats⟩, ty, pos, af, g⟩ (ev tm) H = some (.call 39 (args.toList.map (ev tm))) := z08 (by kernel_rfl)
theorem cl40 {d : Option Tmp} {args : Array Operand} {ats : Array TypeId} {ty : TypeId} {pos : String} {af : Array Edge} {g : Option (Nat × Bool)} {tm : Tr Value} {H : Heap} : dop Tryd.prog ⟨d, .call ⟨.value (.func 40), args, ats⟩, ty, pos, af, g⟩ (ev tm) H = some (.call 40 (args.toList.map (ev tm))) := z08 (by kernel_rfl)
theorem cl41 {d : Option Tmp} {args : Array Operand} {ats : Array TypeId} {ty : TypeId} {pos : String} {af : Array Edge} {g : Option (Nat × Bool)} {tm : Tr Value} {H : Heap} : dop Tryd.prog ⟨d, .call ⟨.value (.func 41), args, ats⟩, ty, pos, af, g⟩ (ev tm) H = some (.call 41 (args.toList.map (ev tm))) := z08 (by kernel_rfl)
theorem cl26 {d : Option Tmp} {args : Array Operand} {ats : Array TypeId} {ty : TypeId} {pos : String} {af : Array Edge} {g : Option (Nat × Bool)} {tm : Tr Value} {H : Heap} : dop Tryd.prog ⟨d, .call ⟨.value (.func 26), args, ats⟩, ty, pos, af, g⟩ (ev tm) H = some (.call 26 (args.toList.map (ev tm))) := z08 (by kernel_rfl)
theorem z7n {v0 v1 : Value} {H : Heap} : dBuildS Tryd.prog 23 2 [(0, v0), (1, v1)] H = dBs 25 2 (([(0, v0), (1, v1)] : List (Nat × Value)).all fun p => p.2.cells.toList.all one) (layC [(0, 6), (6, 6)] [.int .i64 0, .string ByteArray.empty, .string ByteArray.empty, .int .u64 0, .int .i64 0, .slice none 0 0, .int .i64 0, .string ByteArray.empty, .string ByteArray.empty, .int .u64 0, .int .i64 0, .slice none 0 0] (([(0, v0), (1, v1)] : List (Nat × Value)).map fun p => (p.1, p.2.cells.toList))) H := z1q (size := 6) (by kernel_rfl) rfl
theorem cl42 {d : Option Tmp} {args : Array Operand} {ats : Array TypeId} {ty : TypeId} {pos : String} {af : Array Edge} {g : Option (Nat × Bool)} {tm : Tr Value} {H : Heap} : dop Tryd.prog ⟨d, .call ⟨.value (.func 42), args, ats⟩, ty, pos, af, g⟩ (ev tm) H = some (.call 42 (args.toList.map (ev tm))) := z08 (by kernel_rfl)
theorem cl43 {d : Option Tmp} {args : Array Operand} {ats : Array TypeId} {ty : TypeId} {pos : String} {af : Array Edge} {g : Option (Nat × Bool)} {tm : Tr Value} {H : Heap} : dop Tryd.prog ⟨d, .call ⟨.value (.func 43), args, ats⟩, ty, pos, af, g⟩ (ev tm) H = some (.call 43 (args.toList.map (ev tm))) := z08 (by kernel_rfl)
theorem ln84 {ty : TypeId} {a : Option Addr} {n c : Nat} {H : Heap} : dLn Tryd.prog 84 ty (.slice a n c) H = some (.val (.int .i64 n) H) := z1a (e := 3) (by kernel_rfl)
theorem zet {b o : Nat} {H : Heap} : dFieldAddr Tryd.prog 48 (.pointer (some ⟨b, o, none⟩)) 1 H = some (.val (.pointer (some ⟨b, o + 6, none⟩)) H) := z05 (u := 30) (by kernel_rfl) (by kernel_rfl)
theorem z8x {b o : Nat} {H : Heap} : dFieldAddr Tryd.prog 48 (.pointer (some ⟨b, o, none⟩)) 0 H = some (.val (.pointer (some ⟨b, o + 0, none⟩)) H) := z05 (u := 25) (by kernel_rfl) (by kernel_rfl)
theorem cl44 {d : Option Tmp} {args : Array Operand} {ats : Array TypeId} {ty : TypeId} {pos : String} {af : Array Edge} {g : Option (Nat × Bool)} {tm : Tr Value} {H : Heap} : dop Tryd.prog ⟨d, .call ⟨.value (.func 44), args, ats⟩, ty, pos, af, g⟩ (ev tm) H = some (.call 44 (args.toList.map (ev tm))) := z08 (by kernel_rfl)
theorem zm4 {b o : Nat} {H : Heap} : dFieldAddr Tryd.prog 48 (.pointer (some ⟨b, o, none⟩)) 2 H = some (.val (.pointer (some ⟨b, o + 14, none⟩)) H) := z05 (u := 3) (by kernel_rfl) (by kernel_rfl)
theorem cl45 {d : Option Tmp} {args : Array Operand} {ats : Array TypeId} {ty : TypeId} {pos : String} {af : Array Edge} {g : Option (Nat × Bool)} {tm : Tr Value} {H : Heap} : dop Tryd.prog ⟨d, .call ⟨.value (.func 45), args, ats⟩, ty, pos, af, g⟩ (ev tm) H = some (.call 45 (args.toList.map (ev tm))) := z08 (by kernel_rfl)
theorem zr62 : zerosOf Tryd.prog 62 = some [] := by kernel_rfl
theorem st62 {b o : Nat} {H : Heap} {cs : List Value} : dStore Tryd.prog 62 (.pointer (some ⟨b, o, none⟩)) (.agg ⟨cs⟩) H = dStoreIf (Nat.beq cs.length 0) ⟨b, o, none⟩ cs H (H.get b) := z1p (by kernel_rfl) (by kernel_rfl)
theorem bd62 {vs : List (Nat × Value)} {H : Heap} : dBuild Tryd.prog 62 vs H = dBd (vs.all fun p => p.2.cells.toList.all one) (layC [] [] (vs.map fun p => (p.1, p.2.cells.toList))) H := z38 (by kernel_rfl) (by kernel_rfl)
theorem cl48 {d : Option Tmp} {args : Array Operand} {ats : Array TypeId} {ty : TypeId} {pos : String} {af : Array Edge} {g : Option (Nat × Bool)} {tm : Tr Value} {H : Heap} : dop Tryd.prog ⟨d, .call ⟨.value (.func 48), args, ats⟩, ty, pos, af, g⟩ (ev tm) H = some (.call 48 (args.toList.map (ev tm))) := z08 (by kernel_rfl)
theorem cl49 {d : Option Tmp} {args : Array Operand} {ats : Array TypeId} {ty : TypeId} {pos : String} {af : Array Edge} {g : Option (Nat × Bool)} {tm : Tr Value} {H : Heap} : dop Tryd.prog ⟨d, .call ⟨.value (.func 49), args, ats⟩, ty, pos, af, g⟩ (ev tm) H = some (.call 49 (args.toList.map (ev tm))) := z08 (by kernel_rfl)
theorem cl50 {d : Option Tmp} {args : Array Operand} {ats : Array TypeId} {ty : TypeId} {pos : String} {af : Array Edge} {g : Option (Nat × Bool)} {tm : Tr Value} {H : Heap} : dop Tryd.prog ⟨d, .call ⟨.value (.func 50), args, ats⟩, ty, pos, af, g⟩ (ev tm) H = some (.call 50 (args.toList.map (ev tm))) := z08 (by kernel_rfl)
theorem zm5 {v0 v1 v2 : Value} {H : Heap} : dBuildS Tryd.prog 23 3 [(0, v0), (1, v1), (2, v2)] H = dBs 25 3 (([(0, v0), (1, v1), (2, v2)] : List (Nat × Value)).all fun p => p.2.cells.toList.all one) (layC [(0, 6), (6, 6), (12, 6)] [.int .i64 0, .string ByteArray.empty, .string ByteArray.empty, .int .u64 0, .int .i64 0, .slice none 0 0, .int .i64 0, .string ByteArray.empty, .string ByteArray.empty, .int .u64 0, .int .i64 0, .slice none 0 0, .int .i64 0, .string ByteArray.empty, .string ByteArray.empty, .int .u64 0, .int .i64 0, .slice none 0 0] (([(0, v0), (1, v1), (2, v2)] : List (Nat × Value)).map fun p => (p.1, p.2.cells.toList))) H := z1q (size := 6) (by kernel_rfl) rfl
theorem cl61 {d : Option Tmp} {args : Array Operand} {ats : Array TypeId} {ty : TypeId} {pos : String} {af : Array Edge} {g : Option (Nat × Bool)} {tm : Tr Value} {H : Heap} : dop Tryd.prog ⟨d, .call ⟨.value (.func 61), args, ats⟩, ty, pos, af, g⟩ (ev tm) H = some (.call 61 (args.toList.map (ev tm))) := z08 (by kernel_rfl)
theorem bd75 {vs : List (Nat × Value)} {H : Heap} : dBuild Tryd.prog 75 vs H = dBd (vs.all fun p => p.2.cells.toList.all one) (layC [(0, 6)] [.int .i64 0, .string ByteArray.empty, .string ByteArray.empty, .int .u64 0, .int .i64 0, .slice none 0 0] (vs.map fun p => (p.1, p.2.cells.toList))) H := z38 (by kernel_rfl) (by kernel_rfl)
theorem cl62 {d : Option Tmp} {args : Array Operand} {ats : Array TypeId} {ty : TypeId} {pos : String} {af : Array Edge} {g : Option (Nat × Bool)} {tm : Tr Value} {H : Heap} : dop Tryd.prog ⟨d, .call ⟨.value (.func 62), args, ats⟩, ty, pos, af, g⟩ (ev tm) H = some (.call 62 (args.toList.map (ev tm))) := z08 (by kernel_rfl)
theorem zr94 : zerosOf Tryd.prog 94 = some [.map none] := by kernel_rfl
theorem st94 {b o : Nat} {H : Heap} {a : Option Nat} : dStore Tryd.prog 94 (.pointer (some ⟨b, o, none⟩)) (.map a) H = dStoreB ⟨b, o, none⟩ [.map a] H (H.get b) := z7c (by kernel_rfl) (by kernel_rfl)
theorem cl63 {d : Option Tmp} {args : Array Operand} {ats : Array TypeId} {ty : TypeId} {pos : String} {af : Array Edge} {g : Option (Nat × Bool)} {tm : Tr Value} {H : Heap} : dop Tryd.prog ⟨d, .call ⟨.value (.func 63), args, ats⟩, ty, pos, af, g⟩ (ev tm) H = some (.call 63 (args.toList.map (ev tm))) := z08 (by kernel_rfl)
theorem ia84 {b o n c i : Nat} {k : IntKind} {H : Heap} (h : i < n) : dIndexAddr Tryd.prog 84 (.slice (some ⟨b, o, none⟩) n c) (.int k (i : Int)) H = some (.val (.pointer (some ⟨b, o + i * 1, none⟩)) H) := z14 (e := 3) (by kernel_rfl) (by kernel_rfl) (by kernel_rfl) h
theorem ld94 {ad : Addr} {H : Heap} : dLoad Tryd.prog 94 (.pointer (some ad)) H = dload1 (H.load ad 1) H := z09 (by kernel_rfl)
theorem mk23 : mkOk Tryd.prog 23 25 [.int .i64 0, .string ByteArray.empty, .string ByteArray.empty, .int .u64 0, .int .i64 0, .slice none 0 0] := zhr (by kernel_rfl)
theorem cl64 {d : Option Tmp} {args : Array Operand} {ats : Array TypeId} {ty : TypeId} {pos : String} {af : Array Edge} {g : Option (Nat × Bool)} {tm : Tr Value} {H : Heap} : dop Tryd.prog ⟨d, .call ⟨.value (.func 64), args, ats⟩, ty, pos, af, g⟩ (ev tm) H = some (.call 64 (args.toList.map (ev tm))) := z08 (by kernel_rfl)
theorem zm6 {v0 : Value} {H : Heap} : dBuildS Tryd.prog 28 1 [(0, v0)] H = dBs 30 1 (([(0, v0)] : List (Nat × Value)).all fun p => p.2.cells.toList.all one) (layC [(0, 8)] [.int .i64 0, .int .i64 0, .string ByteArray.empty, .string ByteArray.empty, .int .u64 0, .int .i64 0, .slice none 0 0, .slice none 0 0] (([(0, v0)] : List (Nat × Value)).map fun p => (p.1, p.2.cells.toList))) H := z1q (size := 8) (by kernel_rfl) rfl
theorem ap28 : apOk Tryd.prog 28 30 8 := z7e (by kernel_rfl)
theorem st28 {b o : Nat} {H : Heap} {a : Option Addr} {n c : Nat} : dStore Tryd.prog 28 (.pointer (some ⟨b, o, none⟩)) (.slice a n c) H = dStoreB ⟨b, o, none⟩ [.slice a n c] H (H.get b) := z2v (by kernel_rfl) (by kernel_rfl)
theorem zr99 : zerosOf Tryd.prog 99 = some [.map none] := by kernel_rfl
theorem st99 {b o : Nat} {H : Heap} {a : Option Nat} : dStore Tryd.prog 99 (.pointer (some ⟨b, o, none⟩)) (.map a) H = dStoreB ⟨b, o, none⟩ [.map a] H (H.get b) := z7c (by kernel_rfl) (by kernel_rfl)
theorem ln98 {ty : TypeId} {a : Option Addr} {n c : Nat} {H : Heap} : dLn Tryd.prog 98 ty (.slice a n c) H = some (.val (.int .i64 n) H) := z1a (e := 101) (by kernel_rfl)
theorem ia98 {b o n c i : Nat} {k : IntKind} {H : Heap} (h : i < n) : dIndexAddr Tryd.prog 98 (.slice (some ⟨b, o, none⟩) n c) (.int k (i : Int)) H = some (.val (.pointer (some ⟨b, o + i * 7, none⟩)) H) := z14 (e := 101) (by kernel_rfl) (by kernel_rfl) (by kernel_rfl) h
theorem zp2 {ad : Addr} {H : Heap} : dLoad Tryd.prog 101 (.pointer (some ad)) H = dloadA 7 (H.load ad 7) H := z2q (by kernel_rfl) (by kernel_rfl)
theorem zp3 : zerosOf Tryd.prog 101 = some [.int .i64 0, .int .i64 0, .string ByteArray.empty, .string ByteArray.empty, .int .u64 0, .int .i64 0, .slice none 0 0] := by kernel_rfl
theorem zp4 {b o : Nat} {H : Heap} {cs : List Value} : dStore Tryd.prog 101 (.pointer (some ⟨b, o, none⟩)) (.agg ⟨cs⟩) H = dStoreIf (Nat.beq cs.length 7) ⟨b, o, none⟩ cs H (H.get b) := z1p (by kernel_rfl) (by kernel_rfl)
theorem ld99 {ad : Addr} {H : Heap} : dLoad Tryd.prog 99 (.pointer (some ad)) H = dload1 (H.load ad 1) H := z09 (by kernel_rfl)
theorem z7o {b o : Nat} {H : Heap} : dFieldAddr Tryd.prog 101 (.pointer (some ⟨b, o, none⟩)) 0 H = some (.val (.pointer (some ⟨b, o + 0, none⟩)) H) := z05 (u := 3) (by kernel_rfl) (by kernel_rfl)
theorem zi2 {b o : Nat} {H : Heap} : dFieldAddr Tryd.prog 101 (.pointer (some ⟨b, o, none⟩)) 1 H = some (.val (.pointer (some ⟨b, o + 1, none⟩)) H) := z05 (u := 25) (by kernel_rfl) (by kernel_rfl)
theorem zr3 : zerosOf Tryd.prog 3 = some [.int .i64 0] := by kernel_rfl
theorem st3 {b o : Nat} {H : Heap} {k : IntKind} {n : Int} : dStore Tryd.prog 3 (.pointer (some ⟨b, o, none⟩)) (.int k n) H = dStoreB ⟨b, o, none⟩ [.int k n] H (H.get b) := z36 (by kernel_rfl) (by kernel_rfl)
theorem cl69 {d : Option Tmp} {args : Array Operand} {ats : Array TypeId} {ty : TypeId} {pos : String} {af : Array Edge} {g : Option (Nat × Bool)} {tm : Tr Value} {H : Heap} : dop Tryd.prog ⟨d, .call ⟨.value (.func 69), args, ats⟩, ty, pos, af, g⟩ (ev tm) H = some (.call 69 (args.toList.map (ev tm))) := z08 (by kernel_rfl)
theorem zr84 : zerosOf Tryd.prog 84 = some [.slice none 0 0] := by kernel_rfl
theorem ld84 {ad : Addr} {H : Heap} : dLoad Tryd.prog 84 (.pointer (some ad)) H = dload1 (H.load ad 1) H := z09 (by kernel_rfl)
theorem cl73 {d : Option Tmp} {args : Array Operand} {ats : Array TypeId} {ty : TypeId} {pos : String} {af : Array Edge} {g : Option (Nat × Bool)} {tm : Tr Value} {H : Heap} : dop Tryd.prog ⟨d, .call ⟨.value (.func 73), args, ats⟩, ty, pos, af, g⟩ (ev tm) H = some (.call 73 (args.toList.map (ev tm))) := z08 (by kernel_rfl)
theorem ln9 {ty : TypeId} {s : ByteArray} {H : Heap} : dLn Tryd.prog 9 ty (.string s) H = some (.val (.int .i64 s.size) H) := z5x (by kernel_rfl)
theorem zo9 {v0 : Value} {H : Heap} : dBuildS Tryd.prog 84 1 [(0, v0)] H = dBs 3 1 (([(0, v0)] : List (Nat × Value)).all fun p => p.2.cells.toList.all one) (layC [(0, 1)] [.int .i64 0] (([(0, v0)] : List (Nat × Value)).map fun p => (p.1, p.2.cells.toList))) H := z1q (size := 1) (by kernel_rfl) rfl
theorem ap84 : apOk Tryd.prog 84 3 1 := z7e (by kernel_rfl)
theorem st84 {b o : Nat} {H : Heap} {a : Option Addr} {n c : Nat} : dStore Tryd.prog 84 (.pointer (some ⟨b, o, none⟩)) (.slice a n c) H = dStoreB ⟨b, o, none⟩ [.slice a n c] H (H.get b) := z2v (by kernel_rfl) (by kernel_rfl)
theorem ix9 {s : ByteArray} {k : IntKind} {i : Nat} {H : Heap} (h : i < s.size) : dIdx Tryd.prog 9 (.string s) (.int k (i : Int)) H = some (.val (.int .u8 (byteAt s i : Nat)) H) := z2r (by kernel_rfl) h
theorem iy9 {s : ByteArray} {k : IntKind} {i : Int} {H : Heap} (h0 : 0 ≤ i) (h : i < s.size) : dIdx Tryd.prog 9 (.string s) (.int k i) H = some (.val (.int .u8 (byteAt s i.toNat : Nat)) H) := zga (by kernel_rfl) h0 h
theorem us9 : Tryd.prog.underlying 9 = some .string := by kernel_rfl
theorem ld5 {ad : Addr} {H : Heap} : dLoad Tryd.prog 5 (.pointer (some ad)) H = dload1 (H.load ad 1) H := z09 (by kernel_rfl)
theorem zi3 {k : IntKind} {n : Int} {H : Heap} : dCon Tryd.prog 5 3 (.int k n) H = some (.val (.int .i64 (IntKind.i64.wrap n)) H) := z49 (k := .u8) (by kernel_rfl) (by kernel_rfl)
theorem cl84 {d : Option Tmp} {args : Array Operand} {ats : Array TypeId} {ty : TypeId} {pos : String} {af : Array Edge} {g : Option (Nat × Bool)} {tm : Tr Value} {H : Heap} : dop Tryd.prog ⟨d, .call ⟨.value (.func 84), args, ats⟩, ty, pos, af, g⟩ (ev tm) H = some (.call 84 (args.toList.map (ev tm))) := z08 (by kernel_rfl)
theorem zi4 : zerosOf Tryd.prog 120 = some [.bool false, .slice none 0 0] := by kernel_rfl
theorem z8g {b o : Nat} {H : Heap} {cs : List Value} : dStore Tryd.prog 120 (.pointer (some ⟨b, o, none⟩)) (.agg ⟨cs⟩) H = dStoreIf (Nat.beq cs.length 2) ⟨b, o, none⟩ cs H (H.get b) := z1p (by kernel_rfl) (by kernel_rfl)
theorem z8h {ad : Addr} {H : Heap} : dLoad Tryd.prog 120 (.pointer (some ad)) H = dloadA 2 (H.load ad 2) H := z2q (by kernel_rfl) (by kernel_rfl)
theorem cl85 {d : Option Tmp} {args : Array Operand} {ats : Array TypeId} {ty : TypeId} {pos : String} {af : Array Edge} {g : Option (Nat × Bool)} {tm : Tr Value} {H : Heap} : dop Tryd.prog ⟨d, .call ⟨.value (.func 85), args, ats⟩, ty, pos, af, g⟩ (ev tm) H = some (.call 85 (args.toList.map (ev tm))) := z08 (by kernel_rfl)
theorem zgd {vs : List (Nat × Value)} {H : Heap} : dBuild Tryd.prog 120 vs H = dBd (vs.all fun p => p.2.cells.toList.all one) (layC [(0, 1), (1, 1)] [.bool false, .slice none 0 0] (vs.map fun p => (p.1, p.2.cells.toList))) H := z38 (by kernel_rfl) (by kernel_rfl)
theorem cl89 {d : Option Tmp} {args : Array Operand} {ats : Array TypeId} {ty : TypeId} {pos : String} {af : Array Edge} {g : Option (Nat × Bool)} {tm : Tr Value} {H : Heap} : dop Tryd.prog ⟨d, .call ⟨.value (.func 89), args, ats⟩, ty, pos, af, g⟩ (ev tm) H = some (.call 89 (args.toList.map (ev tm))) := z08 (by kernel_rfl)
theorem zm7 {k : IntKind} {n : Int} {H : Heap} : dCon Tryd.prog 3 22 (.int k n) H = some (.val (.int .u64 (IntKind.u64.wrap n)) H) := z49 (k := .i64) (by kernel_rfl) (by kernel_rfl)
theorem z5e {ty : TypeId} {a : Option Addr} {n c : Nat} {H : Heap} : dLn Tryd.prog 118 ty (.slice a n c) H = some (.val (.int .i64 n) H) := z1a (e := 132) (by kernel_rfl)
theorem zge {b o n c i : Nat} {k : IntKind} {H : Heap} (h : i < n) : dIndexAddr Tryd.prog 118 (.slice (some ⟨b, o, none⟩) n c) (.int k (i : Int)) H = some (.val (.pointer (some ⟨b, o + i * 1, none⟩)) H) := z14 (e := 132) (by kernel_rfl) (by kernel_rfl) (by kernel_rfl) h
theorem zi5 {ad : Addr} {H : Heap} : dLoad Tryd.prog 132 (.pointer (some ad)) H = dload1 (H.load ad 1) H := z09 (by kernel_rfl)
theorem z9u {k : IntKind} {n : Int} {H : Heap} : dCon Tryd.prog 132 22 (.int k n) H = some (.val (.int .u64 (IntKind.u64.wrap n)) H) := z49 (k := .u32) (by kernel_rfl) (by kernel_rfl)
theorem z9v {k : IntKind} {n : Int} {H : Heap} : dCon Tryd.prog 22 132 (.int k n) H = some (.val (.int .u32 (IntKind.u32.wrap n)) H) := z49 (k := .u64) (by kernel_rfl) (by kernel_rfl)
theorem zoa {b o : Nat} {H : Heap} {k : IntKind} {n : Int} : dStore Tryd.prog 132 (.pointer (some ⟨b, o, none⟩)) (.int k n) H = dStoreB ⟨b, o, none⟩ [.int k n] H (H.get b) := z36 (by kernel_rfl) (by kernel_rfl)
theorem zmy {v0 : Value} {H : Heap} : dBuildS Tryd.prog 118 1 [(0, v0)] H = dBs 132 1 (([(0, v0)] : List (Nat × Value)).all fun p => p.2.cells.toList.all one) (layC [(0, 1)] [.int .u32 0] (([(0, v0)] : List (Nat × Value)).map fun p => (p.1, p.2.cells.toList))) H := z1q (size := 1) (by kernel_rfl) rfl
theorem zp5 : apOk Tryd.prog 118 132 1 := z7e (by kernel_rfl)
theorem cl90 {d : Option Tmp} {args : Array Operand} {ats : Array TypeId} {ty : TypeId} {pos : String} {af : Array Edge} {g : Option (Nat × Bool)} {tm : Tr Value} {H : Heap} : dop Tryd.prog ⟨d, .call ⟨.value (.func 90), args, ats⟩, ty, pos, af, g⟩ (ev tm) H = some (.call 90 (args.toList.map (ev tm))) := z08 (by kernel_rfl)
theorem cl91 {d : Option Tmp} {args : Array Operand} {ats : Array TypeId} {ty : TypeId} {pos : String} {af : Array Edge} {g : Option (Nat × Bool)} {tm : Tr Value} {H : Heap} : dop Tryd.prog ⟨d, .call ⟨.value (.func 91), args, ats⟩, ty, pos, af, g⟩ (ev tm) H = some (.call 91 (args.toList.map (ev tm))) := z08 (by kernel_rfl)
theorem zmz {v0 : Value} {H : Heap} : dBuildS Tryd.prog 145 1 [(0, v0)] H = dBs 120 1 (([(0, v0)] : List (Nat × Value)).all fun p => p.2.cells.toList.all one) (layC [(0, 2)] [.bool false, .slice none 0 0] (([(0, v0)] : List (Nat × Value)).map fun p => (p.1, p.2.cells.toList))) H := z1q (size := 2) (by kernel_rfl) rfl
theorem cl92 {d : Option Tmp} {args : Array Operand} {ats : Array TypeId} {ty : TypeId} {pos : String} {af : Array Edge} {g : Option (Nat × Bool)} {tm : Tr Value} {H : Heap} : dop Tryd.prog ⟨d, .call ⟨.value (.func 92), args, ats⟩, ty, pos, af, g⟩ (ev tm) H = some (.call 92 (args.toList.map (ev tm))) := z08 (by kernel_rfl)
theorem zi6 {b o : Nat} {H : Heap} : dFieldAddr Tryd.prog 120 (.pointer (some ⟨b, o, none⟩)) 1 H = some (.val (.pointer (some ⟨b, o + 1, none⟩)) H) := z05 (u := 118) (by kernel_rfl) (by kernel_rfl)
theorem zob {ad : Addr} {H : Heap} : dLoad Tryd.prog 118 (.pointer (some ad)) H = dload1 (H.load ad 1) H := z09 (by kernel_rfl)
theorem cl94 {d : Option Tmp} {args : Array Operand} {ats : Array TypeId} {ty : TypeId} {pos : String} {af : Array Edge} {g : Option (Nat × Bool)} {tm : Tr Value} {H : Heap} : dop Tryd.prog ⟨d, .call ⟨.value (.func 94), args, ats⟩, ty, pos, af, g⟩ (ev tm) H = some (.call 94 (args.toList.map (ev tm))) := z08 (by kernel_rfl)
theorem cl93 {d : Option Tmp} {args : Array Operand} {ats : Array TypeId} {ty : TypeId} {pos : String} {af : Array Edge} {g : Option (Nat × Bool)} {tm : Tr Value} {H : Heap} : dop Tryd.prog ⟨d, .call ⟨.value (.func 93), args, ats⟩, ty, pos, af, g⟩ (ev tm) H = some (.call 93 (args.toList.map (ev tm))) := z08 (by kernel_rfl)
theorem zn0 {k : IntKind} {n : Int} {H : Heap} : dCon Tryd.prog 3 132 (.int k n) H = some (.val (.int .u32 (IntKind.u32.wrap n)) H) := z49 (k := .i64) (by kernel_rfl) (by kernel_rfl)
theorem cl95 {d : Option Tmp} {args : Array Operand} {ats : Array TypeId} {ty : TypeId} {pos : String} {af : Array Edge} {g : Option (Nat × Bool)} {tm : Tr Value} {H : Heap} : dop Tryd.prog ⟨d, .call ⟨.value (.func 95), args, ats⟩, ty, pos, af, g⟩ (ev tm) H = some (.call 95 (args.toList.map (ev tm))) := z08 (by kernel_rfl)
theorem zi7 {v0 : Value} {H : Heap} : dBuildS Tryd.prog 137 1 [(0, v0)] H = dBs 5 1 (([(0, v0)] : List (Nat × Value)).all fun p => p.2.cells.toList.all one) (layC [(0, 1)] [.int .u8 0] (([(0, v0)] : List (Nat × Value)).map fun p => (p.1, p.2.cells.toList))) H := z1q (size := 1) (by kernel_rfl) rfl
theorem zoc : apOk Tryd.prog 137 5 1 := z7e (by kernel_rfl)
theorem zn1 {b o : Nat} {H : Heap} : dFieldAddr Tryd.prog 120 (.pointer (some ⟨b, o, none⟩)) 0 H = some (.val (.pointer (some ⟨b, o + 0, none⟩)) H) := z05 (u := 4) (by kernel_rfl) (by kernel_rfl)
theorem zp6 {ty : TypeId} {a : Option Addr} {n c : Nat} {H : Heap} : dLn Tryd.prog 137 ty (.slice a n c) H = some (.val (.int .i64 n) H) := z1a (e := 5) (by kernel_rfl)
theorem zp7 {b o n c i : Nat} {k : IntKind} {H : Heap} (h : i < n) : dIndexAddr Tryd.prog 137 (.slice (some ⟨b, o, none⟩) n c) (.int k (i : Int)) H = some (.val (.pointer (some ⟨b, o + i * 1, none⟩)) H) := z14 (e := 5) (by kernel_rfl) (by kernel_rfl) (by kernel_rfl) h
theorem st5 {b o : Nat} {H : Heap} {k : IntKind} {n : Int} : dStore Tryd.prog 5 (.pointer (some ⟨b, o, none⟩)) (.int k n) H = dStoreB ⟨b, o, none⟩ [.int k n] H (H.get b) := z36 (by kernel_rfl) (by kernel_rfl)
theorem zp8 {d : Option Tmp} {args : Array Operand} {ats : Array TypeId} {ty : TypeId} {pos : String} {af : Array Edge} {g : Option (Nat × Bool)} {tm : Tr Value} {H : Heap} : dop Tryd.prog ⟨d, .call ⟨.value (.func 101), args, ats⟩, ty, pos, af, g⟩ (ev tm) H = some (.call 101 (args.toList.map (ev tm))) := z08 (by kernel_rfl)
theorem zp9 {ty : TypeId} {a : Option Addr} {n c : Nat} {H : Heap} : dLn Tryd.prog 145 ty (.slice a n c) H = some (.val (.int .i64 n) H) := z1a (e := 120) (by kernel_rfl)
theorem zpa {b o n c : Nat} {k : IntKind} {i : Int} {H : Heap} (h0 : 0 ≤ i) (h : i < n) : dIndexAddr Tryd.prog 145 (.slice (some ⟨b, o, none⟩) n c) (.int k i) H = some (.val (.pointer (some ⟨b, o + i.toNat * 2, none⟩)) H) := z4m (e := 120) (by kernel_rfl) (by kernel_rfl) (by kernel_rfl) h0 h
theorem zod : mkOk Tryd.prog 118 132 [.int .u32 0] := zhr (by kernel_rfl)
theorem zn2 : slcOk Tryd.prog 118 132 1 := ⟨by kernel_rfl, by kernel_rfl, by kernel_rfl⟩
theorem z9w {k : IntKind} {n : Int} {H : Heap} : dCon Tryd.prog 132 5 (.int k n) H = some (.val (.int .u8 (IntKind.u8.wrap n)) H) := z49 (k := .u32) (by kernel_rfl) (by kernel_rfl)
end Go.Proofs.hq
end

section
namespace Go.Hb
def valB (B : Nat) : List Nat → Nat
 | [] => 0
 | x :: l => x + B * valB B l
theorem z1n (B : Nat) : ∀ a b : List Nat, valB B (a ++ b) = valB B a + B ^ a.length * valB B b
 | [], b => by simp [valB]
 | x :: a, b => by
  rw [List.cons_append, valB, z1n B a b, valB, List.length_cons, Nat.pow_succ, Nat.mul_add]
  rw [show B ^ a.length * B * valB B b = B * (B ^ a.length * valB B b) by rw [Nat.mul_comm (B ^ a.length) B, Nat.mul_assoc]]
  omega
theorem z5f (B x : Nat) : valB B [x] = x := by simp [valB]
theorem zi8 (B : Nat) : ∀ l : List Nat, (∀ x ∈ l, x < B) → valB B l < B ^ l.length
 | [], _ => by simp [valB]
 | x :: l, h => by
  have ih := zi8 B l fun y hy => h y (List.mem_cons_of_mem _ hy)
  have hx := h x (by simp)
  rw [valB, List.length_cons, Nat.pow_succ]
  have h1 : B * (valB B l + 1) ≤ B * B ^ l.length := Nat.mul_le_mul_left _ ih
  rw [Nat.mul_comm (B ^ l.length) B]
  rw [Nat.mul_add] at h1
  omega
theorem z61 (B : Nat) : ∀ l : List Nat, (∀ x ∈ l, x = 0) → valB B l = 0
 | [], _ => rfl
 | x :: l, h => by rw [valB, h x (by simp), z61 B l fun y hy => h y (List.mem_cons_of_mem _ hy)]; simp
theorem zi9 {B : Nat} {l : List Nat} {n : Nat} (h : ∀ x ∈ l.drop n, x = 0) : valB B (l.take n) = valB B l := by
 conv => rhs; rw [← List.take_append_drop n l]
 rw [z1n, z61 B _ h]; simp
theorem zn3 {B c x : Nat} {d rest : List Nat} : valB B (d ++ [(x * 10 + c) % B]) + B ^ (d.length + 1) * (10 * valB B rest + (x * 10 + c) / B) = valB B d + B ^ d.length * (10 * valB B (x :: rest) + c) := by
 rw [z1n, z5f, valB, Nat.pow_succ]
 have h := Nat.mod_add_div (x * 10 + c) B
 generalize (x * 10 + c) % B = m at h ⊢
 generalize (x * 10 + c) / B = q at h ⊢
 generalize B ^ d.length = p
 generalize valB B rest = v
 have e1 : p * B * (10 * v + q) = p * (B * (10 * v + q)) := Nat.mul_assoc ..
 have e2 : p * (10 * (x + B * v) + c) = p * m + p * (B * (10 * v + q)) := by
  rw [← Nat.mul_add]
  congr 1
  have e3 : B * (10 * v + q) = 10 * (B * v) + B * q := by rw [Nat.mul_add, Nat.mul_left_comm]
  omega
 omega
theorem zia {B c x : Nat} (hB : 0 < B) (hx : x < B) (hc : c < 10) : (x * 10 + c) / B < 10 := by
 rw [Nat.div_lt_iff_lt_mul hB]
 omega
theorem zn4 {B x r : Nat} {low q : List Nat} : valB B (low ++ [x]) + B ^ (low.length + 1) * (10 * valB B q + r) = valB B low + B ^ low.length * (10 * valB B ((r * B + x) / 10 :: q) + (r * B + x) % 10) := by
 rw [z1n, z5f, valB, Nat.pow_succ]
 have h := Nat.mod_add_div (r * B + x) 10
 generalize (r * B + x) % 10 = m at h ⊢
 generalize (r * B + x) / 10 = z at h ⊢
 generalize B ^ low.length = p
 generalize valB B q = v
 have e1 : p * B * (10 * v + r) = p * (B * (10 * v + r)) := Nat.mul_assoc ..
 have e2 : p * (10 * (z + B * v) + m) = p * x + p * (B * (10 * v + r)) := by
  rw [← Nat.mul_add]
  congr 1
  have e3 : B * (10 * v + r) = 10 * (B * v) + r * B := by rw [Nat.mul_add, Nat.mul_left_comm, Nat.mul_comm B r]
  omega
 omega
theorem zkk {B x r : Nat} (hx : x < B) (hr : r < 10) : (r * B + x) / 10 < B := by
 rw [Nat.div_lt_iff_lt_mul (by omega)]
 have : r * B ≤ 9 * B := Nat.mul_le_mul_right _ (by omega)
 omega
def decR (n : Nat) : List Nat := if h : n = 0 then [] else n % 10 :: decR (n / 10)
termination_by n
decreasing_by omega
theorem zib : decR 0 = [] := by rw [decR]; simp
theorem zeu {n : Nat} (h : n ≠ 0) : decR n = n % 10 :: decR (n / 10) := by rw [decR, dif_neg h]
def digV (b : Nat) : Nat := if 48 ≤ b ∧ b ≤ 57 then b - 48 else if 97 ≤ b ∧ b ≤ 122 then b - 97 + 10 else if 65 ≤ b ∧ b ≤ 90 then b - 65 + 10 else 99
def mostBits : Nat := 4096
@[irreducible] def big : Nat := 2 ^ mostBits
theorem zbl : big = 2 ^ mostBits := by unfold big; rfl
def numD : List Nat → Nat → Option Nat
 | [], n => some n
 | d :: l, n => if big ≤ n * 10 + d then none else numD l (n * 10 + d)
def textD (neg : Bool) (n : Nat) : List Nat := if n = 0 then [48] else ((decR n).map (48 + ·) ++ if neg then [45] else []).reverse
def canonD (s : List Nat) : Bool :=
 let neg := s.head? == some 45
 let b := if neg then s.tail else s
 if b = [] then false else if b.any (fun x => 10 ≤ digV x) then false else match numD (b.map digV) 0 with
  | none => false
  | some n => textD neg n == s
theorem zic : ∀ (l : List Nat) (n m : Nat), n < big → numD l n = some m → m < big
 | [], n, m, h, e => by cases e; exact h
 | d :: l, n, m, h, e => by
  rw [numD] at e
  split at e
  ·cases e
  ·rename_i hb
   exact zic l _ m (Nat.lt_of_not_le hb) e
def nbits (n : Nat) : Nat := if n = 0 then 0 else n.log2 + 1
theorem z8y {n s : Nat} (h : n ≠ 0) (h1 : 2 ^ s ≤ n) (h2 : n < 2 ^ (s + 1)) : nbits n = s + 1 := by
 rw [nbits, if_neg h]
 have := (Nat.log2_lt h).2 h2
 have := (Nat.le_log2 h).2 h1
 omega
theorem zkl {n : Nat} (e : Nat) : e < nbits n ↔ 2 ^ e ≤ n := by
 unfold nbits
 by_cases h : n = 0
 ·subst h
  simp
 ·rw [if_neg h]
  constructor
  ·intro hh; exact (Nat.le_log2 h).1 (by omega)
  ·intro hh; have := (Nat.le_log2 h).2 hh; omega
theorem z3w {n : Nat} : 4096 < nbits n ↔ big ≤ n := by rw [zbl]; exact zkl mostBits
theorem z9x {n e : Nat} (h : 2 ^ e ≤ n) : nbits n = nbits (n / 2 ^ e) + e := by
 have hp : 0 < 2 ^ e := Nat.two_pow_pos e
 have h0 : n / 2 ^ e ≠ 0 := by
  have := (Nat.le_div_iff_mul_le hp).2 (show 1 * 2 ^ e ≤ n by omega)
  omega
 have hb : nbits (n / 2 ^ e) = (n / 2 ^ e).log2 + 1 := by rw [nbits, if_neg h0]
 have h1 : 2 ^ (n / 2 ^ e).log2 ≤ n / 2 ^ e := Nat.log2_self_le h0
 have h2 : n / 2 ^ e < 2 ^ ((n / 2 ^ e).log2 + 1) := Nat.lt_log2_self
 rw [hb, show (n / 2 ^ e).log2 + 1 + e = ((n / 2 ^ e).log2 + e) + 1 by omega]
 refine z8y (by omega) ?_ ?_
 ·rw [Nat.pow_add]; exact (Nat.le_div_iff_mul_le hp).1 h1
 ·rw [show (n / 2 ^ e).log2 + e + 1 = ((n / 2 ^ e).log2 + 1) + e by omega, Nat.pow_add]
  exact (Nat.div_lt_iff_lt_mul hp).1 h2
theorem z5g {n : Nat} (h : n < 4294967296) : nbits n ≤ 32 := by
 unfold nbits
 split
 ·omega
 ·rename_i h0
  have := (Nat.log2_lt (k := 32) h0).2 h
  omega
theorem zbm {l : List Nat} {x e : Nat} (hl : ∀ y ∈ l, y < 2 ^ e) (hx : x ≠ 0) : nbits (valB (2 ^ e) (l ++ [x])) = e * l.length + nbits x := by
 have hv := zi8 (2 ^ e) l hl
 rw [z1n, z5f, ← Nat.pow_mul] at *
 have hb : nbits x = x.log2 + 1 := by rw [nbits, if_neg hx]
 rw [hb, ← Nat.add_assoc]
 have h1 : 2 ^ x.log2 ≤ x := Nat.log2_self_le hx
 have h2 : x < 2 ^ (x.log2 + 1) := Nat.lt_log2_self
 refine z8y ?_ ?_ ?_
 ·have : 0 < 2 ^ (e * l.length) * x := Nat.mul_pos (Nat.two_pow_pos _) (by omega)
  omega
 ·rw [Nat.pow_add]
  have := Nat.mul_le_mul_left (2 ^ (e * l.length)) h1
  omega
 ·rw [Nat.add_assoc, Nat.pow_add]
  have := Nat.mul_le_mul_left (2 ^ (e * l.length)) h2
  rw [Nat.mul_succ] at this
  omega
theorem z8z {e k m n : Nat} (hm : m ≠ 0) (h : m * 10 ^ k ≤ n) (hn : n < 2 ^ e) : k < e := by
 have h1 : 2 ^ k ≤ 10 ^ k := Nat.pow_le_pow_left (by omega) k
 have h2 : 1 * 10 ^ k ≤ m * 10 ^ k := Nat.mul_le_mul_right _ (by omega)
 have h3 : 2 ^ k < 2 ^ e := by omega
 exact (Nat.pow_lt_pow_iff_right (by omega)).1 h3
end Go.Hb
end

section
namespace Go.Proofs.hq
open Go Go.RowKit Go.Hb
variable {ok : Ok}
set_option maxRecDepth 10000
attribute [local irreducible] LX LG EL STG SOP SGO SGD SAL SRD SEF SEG SLK SCK ES
theorem zgf (b : Nat) : (b < 48 ∧ digV b = 99) ∨ (48 ≤ b ∧ b ≤ 57 ∧ digV b = b - 48) ∨ (58 ≤ b ∧ b < 65 ∧ digV b = 99) ∨ (65 ≤ b ∧ b ≤ 90 ∧ digV b = b - 55) ∨ (91 ≤ b ∧ b < 97 ∧ digV b = 99) ∨ (97 ≤ b ∧ b ≤ 122 ∧ digV b = b - 87) ∨ (123 ≤ b ∧ digV b = 99) := by
 unfold digV
 by_cases h1 : 48 ≤ b ∧ b ≤ 57
 ·simp [h1]
 ·by_cases h2 : 97 ≤ b ∧ b ≤ 122
  ·rw [if_neg h1, if_pos h2]; omega
  ·by_cases h3 : 65 ≤ b ∧ b ≤ 90
   ·rw [if_neg h1, if_neg h2, if_pos h3]; omega
   ·rw [if_neg h1, if_neg h2, if_neg h3]; omega
theorem zev (hk : ∀ args H, ok.K 89 args H = none) (hm : ok.testBit 89 = true) (b : Nat) (hb : b < 256) (H : Heap) :
  EvF Tryd.prog ok 89 [.int .u8 (b : Int)] H fun v H' => v = .int .i64 (digV b : Int) ∧ H' = H := by
 refine EvF.enter (hk _ _) Tryd.func89 hm rfl ?_
 rcases zgf b with ⟨h1, h⟩ | ⟨h1, h2, h⟩ | ⟨h1, h2, h⟩ | ⟨h1, h2, h⟩ | ⟨h1, h2, h⟩ | ⟨h1, h2, h⟩ | ⟨h1, h⟩
 all_goals
  repeat' (first | refine EvC.seq ?_ | refine EvC.scope ?_ | refine EvC.block ?_ | (refine EvC.skip ?_; try simp only [sA]) | (refine EvC.exit ?_) | (refine EvC.ret ?_; try simp only [z01, z00]) | (refine EvC.reg ?_; simp (disch := first | omega | rfl) only [sB, initTm, Nat.reduceEqDiff, reduceCtorEq, zi3, decide_eq_true, decide_eq_false, z7i, z0c, Bool.false_eq_true]) | (refine EvC.condT ?_ ?_; simp (disch := first | omega | rfl) only [sB, Nat.reduceEqDiff, reduceCtorEq]; refine z04 ?_) | (refine EvC.condF ?_ ?_; simp (disch := first | omega | rfl) only [sB, Nat.reduceEqDiff, reduceCtorEq]; refine z04 ?_))
  exact z06 rfl (by simp only [sB, Nat.reduceEqDiff, reduceCtorEq] <;> rfl) ⟨by simp only [Value.int.injEq, true_and]; omega, rfl⟩
def u32V (n : Nat) : Value := .int .u32 (n : Int)
def i64V (n : Nat) : Value := .int .i64 (n : Int)
theorem z9y (hk : ∀ args H, ok.K 94 args H = none) (hm : ok.testBit 94 = true) {L : List Nat} {a : Option Addr} {c : Nat} {H : Heap} (r : RdS H (L.map u32V) a c) :
  EvF Tryd.prog ok 94 [.slice a L.length c] H fun v H' => ∃ m, v = .slice a m c ∧ m ≤ L.length ∧ (∀ x ∈ L.drop m, x = 0) ∧ (m ≠ 0 → L[m - 1]? ≠ some 0) ∧ H' = H := by
 have hL : L.length ≤ c := by simpa using r.len
 have hc : c ≤ 9223372036854775807 := r.cap
 refine EvF.enter (hk _ _) Tryd.func94 hm rfl ?_
 repeat' (first | refine EvC.seq ?_ | refine EvC.scope ?_ | refine EvC.block ?_ | (refine EvC.skip ?_) | (refine EvC.exit ?_) | (refine EvC.ret ?_; try simp only [z01, z00]) | (refine EvC.reg ?_; simp (disch := first | omega | rfl) only [sA, initTm]))
 refine EvC.loop (fun k st => ∃ tm n, st = ⟨tm, [], H⟩ ∧ k = n ∧ n ≤ L.length ∧ (∀ x ∈ L.drop n, x = 0) ∧ tm.get 0 = some (.slice a n c)) ?_ L.length _ ?_
 ·rintro k st ⟨tm, n, rfl, rfl, hn, hz, g0⟩
  by_cases h0 : k = 0
  ·subst h0
   repeat' (first | refine EvC.seq ?_ | refine EvC.scope ?_ | refine EvC.block ?_ | (refine EvC.skip ?_) | (refine EvC.exit ?_; try simp only [sB]) | (refine EvC.ret ?_; try simp only [z01, z00]) | (refine EvC.reg ?_; simp (disch := first | omega | rfl) only [sB, Nat.reduceEqDiff, reduceCtorEq, z5e, g0, decide_eq_false, Bool.false_eq_true]) | (refine EvC.condT ?_ ?_; simp (disch := first | omega | rfl) only [sB, Nat.reduceEqDiff]; refine z04 ?_) | (refine EvC.condF ?_ ?_; simp (disch := first | omega | rfl) only [sB, Nat.reduceEqDiff]; refine z04 ?_))
   exact z06 rfl (by simp only [sG, Nat.reduceEqDiff] <;> rfl) ⟨0, rfl, by omega, hz, by simp, rfl⟩
  ·have hx : L[k - 1]? = some L[k - 1] := List.getElem?_eq_getElem (by omega)
   generalize L[k - 1] = x at hx
   obtain ⟨b, o, rfl, hl⟩ := r.get (k - 1) (u32V x) (by simp [hx])
   have e1 : ((k : Int) - 1) = ((k - 1 : Nat) : Int) := by omega
   unfold u32V at hl
   by_cases hx0 : x = 0
   ·repeat' (first | refine EvC.seq ?_ | refine EvC.scope ?_ | refine EvC.block ?_ | (refine EvC.skip ?_; try simp only [z02]) | (refine EvC.exit ?_) | (refine EvC.ret ?_; try simp only [z01, z00]) | (refine EvC.reg ?_; simp (disch := first | omega | rfl) only [sB, Nat.reduceEqDiff, reduceCtorEq, z5e, zge, zi5, g0, e1, hl, decide_eq_true, z0c, z0r, zo8 zn2]) | (refine EvC.condT ?_ ?_; simp (disch := first | omega | rfl) only [sB, Nat.reduceEqDiff]; refine z04 ?_))
    refine ⟨k - 1, by omega, _, k - 1, rfl, rfl, by omega, fun y hy => ?_, (by simp only [sG, reduceCtorEq] <;> rfl)⟩
    rw [List.drop_eq_getElem_cons (by omega)] at hy
    rcases List.mem_cons.1 hy with h | h
    ·rw [h, ← Option.some.inj ((List.getElem?_eq_getElem (by omega)).symm.trans hx)] at *; omega
    ·exact hz y (by rwa [show k - 1 + 1 = k by omega] at h)
   ·repeat' (first | refine EvC.seq ?_ | refine EvC.scope ?_ | refine EvC.block ?_ | (refine EvC.skip ?_) | (refine EvC.exit ?_; try simp only [sB]) | (refine EvC.ret ?_; try simp only [z01, z00]) | (refine EvC.reg ?_; simp (disch := first | omega | rfl) only [sB, Nat.reduceEqDiff, reduceCtorEq, z5e, zge, zi5, g0, e1, hl, decide_eq_true, z0c, z0t]) | (refine EvC.condT ?_ ?_; simp (disch := first | omega | rfl) only [sB, Nat.reduceEqDiff]; refine z04 ?_) | (refine EvC.condF ?_ ?_; simp (disch := first | omega | rfl) only [sB, Nat.reduceEqDiff]; refine z04 ?_))
    exact z06 rfl (by simp only [sG, Nat.reduceEqDiff] <;> rfl) ⟨k, rfl, hn, hz, fun _ => by rw [hx]; simpa using hx0, rfl⟩
 ·exact ⟨_, L.length, rfl, rfl, Nat.le_refl _, by simp, (by simp only [sG, reduceCtorEq] <;> rfl)⟩
theorem zew {s : ByteArray} (h : ∀ i : Fin 256, byteAt s i = nbits i) {y : Nat} (hy : y < 256) : byteAt s y = nbits y := h ⟨y, hy⟩
theorem zkm (hk : ∀ args H, ok.K 101 args H = none) (hm : ok.testBit 101 = true) {x : Nat} (hx : x < 4294967296) {H : Heap} :
  EvF Tryd.prog ok 101 [.int .u32 (x : Int)] H fun v H' => v = .int .i64 (nbits x : Int) ∧ H' = H := by
 refine EvF.enter (hk _ _) Tryd.func101 hm rfl ?_
 by_cases h1 : 65536 ≤ x
 ·have e1 : nbits x = nbits (x / 65536) + 16 := z9x (e := 16) h1
  by_cases h2 : 16777216 ≤ x
  ·have e2 : nbits (x / 65536) = nbits (x / 65536 / 256) + 8 := z9x (e := 8) (by omega)
   repeat' (first | refine EvC.seq ?_ | refine EvC.scope ?_ | refine EvC.block ?_ | (refine EvC.skip ?_) | (refine EvC.exit ?_) | (refine EvC.ret ?_; try simp only [z01, z00]) | (refine EvC.reg ?_; simp (disch := first | omega | rfl) only [sB, initTm, Nat.reduceEqDiff, reduceCtorEq, z9w, decide_eq_true, z7h, z8u, z0c, z7i]) | (refine EvC.condT ?_ ?_; simp (disch := first | omega | rfl) only [sB, Nat.reduceEqDiff, reduceCtorEq]; refine z04 ?_))
   rw [z2r Tryd.underlying9 (show x / 65536 / 256 < _ from by show _ < 256; omega)]
   generalize hB : byteAt _ (x / 65536 / 256) = B
   have hB' : B = nbits (x / 65536 / 256) := by rw [← hB]; exact zew (by decide +kernel) (by omega)
   have hl := z5g (n := x / 65536 / 256) (by omega)
   repeat' (first | refine EvC.seq ?_ | refine EvC.scope ?_ | refine EvC.block ?_ | (refine EvC.skip ?_) | (refine EvC.exit ?_) | (refine EvC.ret ?_; try simp only [z01, z00]) | (refine z0q ?_; simp (disch := first | omega | rfl) only [sB, Nat.reduceEqDiff, reduceCtorEq, zi3, z0c]))
   exact z06 rfl (by simp only [sB, Nat.reduceEqDiff, reduceCtorEq] <;> rfl) ⟨by simp only [Value.int.injEq, true_and]; omega, rfl⟩
  ·repeat' (first | refine EvC.seq ?_ | refine EvC.scope ?_ | refine EvC.block ?_ | (refine EvC.skip ?_; try simp only [z02]) | (refine EvC.exit ?_) | (refine EvC.ret ?_; try simp only [z01, z00]) | (refine EvC.reg ?_; simp (disch := first | omega | rfl) only [sB, initTm, Nat.reduceEqDiff, reduceCtorEq, z9w, decide_eq_true, decide_eq_false, z7h, z7i]) | (refine EvC.condT ?_ ?_; simp (disch := first | omega | rfl) only [sB, Nat.reduceEqDiff, reduceCtorEq]; refine z04 ?_) | (refine EvC.condF ?_ ?_; simp (disch := first | omega | rfl) only [sB, Nat.reduceEqDiff, reduceCtorEq]; refine z04 ?_))
   rw [z2r Tryd.underlying9 (show x / 65536 < _ from by show _ < 256; omega)]
   generalize hB : byteAt _ (x / 65536) = B
   have hB' : B = nbits (x / 65536) := by rw [← hB]; exact zew (by decide +kernel) (by omega)
   have hl := z5g (n := x / 65536) (by omega)
   repeat' (first | refine EvC.seq ?_ | refine EvC.scope ?_ | refine EvC.block ?_ | (refine EvC.skip ?_) | (refine EvC.exit ?_) | (refine EvC.ret ?_; try simp only [z01, z00]) | (refine z0q ?_; simp (disch := first | omega | rfl) only [sB, Nat.reduceEqDiff, reduceCtorEq, zi3, z0c]))
   exact z06 rfl (by simp only [sB, Nat.reduceEqDiff, reduceCtorEq] <;> rfl) ⟨by simp only [Value.int.injEq, true_and]; omega, rfl⟩
 ·by_cases h2 : 256 ≤ x
  ·have e2 : nbits x = nbits (x / 256) + 8 := z9x (e := 8) h2
   repeat' (first | refine EvC.seq ?_ | refine EvC.scope ?_ | refine EvC.block ?_ | (refine EvC.skip ?_; try simp only [z02]) | (refine EvC.exit ?_) | (refine EvC.ret ?_; try simp only [z01, z00]) | (refine EvC.reg ?_; simp (disch := first | omega | rfl) only [sB, initTm, Nat.reduceEqDiff, reduceCtorEq, z9w, decide_eq_true, decide_eq_false, z8u, z0c, z7i]) | (refine EvC.condT ?_ ?_; simp (disch := first | omega | rfl) only [sB, Nat.reduceEqDiff, reduceCtorEq]; refine z04 ?_) | (refine EvC.condF ?_ ?_; simp (disch := first | omega | rfl) only [sB, Nat.reduceEqDiff, reduceCtorEq]; refine z04 ?_))
   rw [z2r Tryd.underlying9 (show x / 256 < _ from by show _ < 256; omega)]
   generalize hB : byteAt _ (x / 256) = B
   have hB' : B = nbits (x / 256) := by rw [← hB]; exact zew (by decide +kernel) (by omega)
   have hl := z5g (n := x / 256) (by omega)
   repeat' (first | refine EvC.seq ?_ | refine EvC.scope ?_ | refine EvC.block ?_ | (refine EvC.skip ?_) | (refine EvC.exit ?_) | (refine EvC.ret ?_; try simp only [z01, z00]) | (refine z0q ?_; simp (disch := first | omega | rfl) only [sB, Nat.reduceEqDiff, reduceCtorEq, zi3, z0c]))
   exact z06 rfl (by simp only [sB, Nat.reduceEqDiff, reduceCtorEq] <;> rfl) ⟨by simp only [Value.int.injEq, true_and]; omega, rfl⟩
  ·repeat' (first | refine EvC.seq ?_ | refine EvC.scope ?_ | refine EvC.block ?_ | (refine EvC.skip ?_; try simp only [z02]) | (refine EvC.exit ?_) | (refine EvC.ret ?_; try simp only [z01, z00]) | (refine EvC.reg ?_; simp (disch := first | omega | rfl) only [sB, initTm, Nat.reduceEqDiff, reduceCtorEq, z9w, decide_eq_false, z7i]) | (refine EvC.condT ?_ ?_; simp (disch := first | omega | rfl) only [sB, Nat.reduceEqDiff, reduceCtorEq]; refine z04 ?_) | (refine EvC.condF ?_ ?_; simp (disch := first | omega | rfl) only [sB, Nat.reduceEqDiff, reduceCtorEq]; refine z04 ?_))
   rw [z2r Tryd.underlying9 (show x < _ from by show _ < 256; omega)]
   generalize hB : byteAt _ (x) = B
   have hB' : B = nbits (x) := by rw [← hB]; exact zew (by decide +kernel) (by omega)
   have hl := z5g (n := x) (by omega)
   repeat' (first | refine EvC.seq ?_ | refine EvC.scope ?_ | refine EvC.block ?_ | (refine EvC.skip ?_) | (refine EvC.exit ?_) | (refine EvC.ret ?_; try simp only [z01, z00]) | (refine z0q ?_; simp (disch := first | omega | rfl) only [sB, Nat.reduceEqDiff, reduceCtorEq, zi3, z0c]))
   exact z06 rfl (by simp only [sB, Nat.reduceEqDiff, reduceCtorEq] <;> rfl) ⟨by simp only [Value.int.injEq, true_and]; omega, rfl⟩
theorem zoe (a : Nat) : (a : Int).tdiv 10 = ((a / 10 : Nat) : Int) := rfl
theorem zof (a : Nat) : (a : Int).tmod 10 = ((a % 10 : Nat) : Int) := rfl
theorem zog {r x : Nat} (hr : r < 10) (hx : x < 4294967296) : kOr .u64 (IntKind.u64.wrap ((r : Int) * 2 ^ (min 32 IntKind.u64.bits))) (x : Int) = ((r * 4294967296 + x : Nat) : Int) := by
 have e1 : ((r : Int) * 2 ^ (min 32 IntKind.u64.bits)) = ((r * 4294967296 : Nat) : Int) := by
  show (r : Int) * 2 ^ 32 = _
  omega
 rw [e1, z4a (by omega) (by omega)]
 unfold kOr
 show IntKind.u64.wrap ((BitVec.ofInt 64 ((r * 4294967296 : Nat) : Int) ||| BitVec.ofInt 64 (x : Int)).toNat : Int) = _
 rw [BitVec.ofInt_natCast, BitVec.ofInt_natCast, BitVec.toNat_or, BitVec.toNat_ofNat, BitVec.toNat_ofNat, Nat.mod_eq_of_lt (by omega), Nat.mod_eq_of_lt (by omega)]
 have e2 : r * 4294967296 ||| x = r * 4294967296 + x := by
  have := Nat.two_pow_add_eq_or_of_lt (i := 32) (b := x) hx r
  rw [Nat.mul_comm] at this
  exact this.symm
 rw [e2, z4a (by omega) (by omega)]
theorem zkn (hk : ∀ args H, ok.K 95 args H = none) (hm : ok.testBit 95 = true) {r x : Nat} (hr : r < 10) (hx : x < 4294967296) {H : Heap} (hw : H.wf) :
  EvF Tryd.prog ok 95 [.int .u32 (r : Int), .int .u32 (x : Int), .int .u32 10] H fun v H' => v = .tuple ⟨[.int .u32 ((r * 4294967296 + x) / 10 : Nat), .int .u32 ((r * 4294967296 + x) % 10 : Nat)]⟩ ∧ HX H H' := by
 refine EvF.enter (hk _ _) Tryd.func95 hm rfl ?_
 repeat' (first | refine EvC.seq ?_ | refine EvC.scope ?_ | refine EvC.block ?_ | (refine EvC.skip ?_; try simp only [z02]) | (refine EvC.exit ?_) | (refine EvC.ret ?_; try simp only [z01, z00]) | (refine EvC.reg ?_; simp (disch := first | omega | rfl) only [sB, initTm, Nat.reduceEqDiff, Nat.reduceAdd, reduceCtorEq, Int.reduceToNat, z9u, decide_eq_false, z4k, bShl, bOr, z4a, zog hr hx]) | (refine EvC.drw [([(0, 0), (1, 0), (2, 0), (3, 0), (4, 0), (5, 0), (6, 0), (7, 0), (8, 0), (9, 0), (10, 0), (11, 0)], none)] ?_ ?_; kernel_rfl; simp (disch := first | omega | rfl) only [sD, sB, Nat.reduceEqDiff, Nat.reduceAdd, reduceCtorEq, z9u, z9v, z4a, bQuo, bRem, wrap_u32, zoe, zof, isAlloc, isRead, reduceCtorEq]) | (refine EvC.condT ?_ ?_; simp (disch := first | omega | rfl) only [sB, Nat.reduceEqDiff, reduceCtorEq]; refine z04 ?_) | (refine EvC.condF ?_ ?_; simp (disch := first | omega | rfl) only [sB, Nat.reduceEqDiff, reduceCtorEq]; refine z04 ?_))
 exact z2p rfl (by simp only [sG, Nat.reduceEqDiff, reduceCtorEq] <;> rfl) (by simp only [sG, Nat.reduceEqDiff, reduceCtorEq] <;> rfl) ⟨rfl, (HX.refl hw).bump _⟩
end Go.Proofs.hq
end

section
namespace Go.Proofs.hq
open Go Go.RowKit Go.Hb
def okT : Ok := okLaw (2 ^ 135 - 1) 5 75
end Go.Proofs.hq
end
