/- Regions that draw their order, over values with variables in them: the machine's one schedule. -/
import Derived.Test.YtgcbbaeokigbdaaDoorHbStart
namespace Go.Hb
open Go Go.RowKit

/-- a region's stages: what is done ahead of each effect, the effect; what is left -/
def schedGo (n : Nat) (b : Array Nat) (effs : List Nat) : List Nat → Nat → List (List Nat × Option Nat)
  | [], done => [((List.range n).filter fun i => !done.testBit i && !effs.contains i, none)]
  | e :: es, done => (pending (List.range n) effs (b.getD e 0) done, some e) :: schedGo n b effs es (done ||| b.getD e 0 ||| 2 ^ e)

def effsOf (ops : Array Oper) : List Nat := (List.range ops.size).filter fun i => match ops[i]? with | some o => isEff o | none => false

def noTwin (b : Array Nat) : List Nat → Bool
  | [] => true
  | e :: es => (twin b (e :: es)).isNone && noTwin b es

/-- the stages, and of each operation how many effects stand ahead of it (a region whose last stores stand in no order has none here) -/
def sched (ops : Array Oper) : List (List (Nat × Nat) × Option Nat) :=
  if noTwin (Region.before ops) (effsOf ops) = false then [] else (schedGo ops.size (Region.before ops) (effsOf ops) (effsOf ops) 0).map fun p => (p.1.map fun i => (i, effsIn (effsOf ops) ((Region.before ops).getD i 0)), p.2)

section
variable (P : Program) (ok : Ok) (x : Ctx) (ops : Array Oper) (base : Nat)

/-- operations that are no effects; hs: the heaps, the last one first -/
def EvN (hs : List Heap) : List (Nat × Nat) → Tr Value → Heap → (Tr Value → Heap → Prop) → Prop
  | [], tm, H, K => K tm H
  | (i, k) :: L, tm, H, K => ∃ o, ops.toList[i]? = some o ∧
    ((dwanted ops tm o = some false ∧ EvN hs L (putD tm o.dst undef) H K) ∨
     (dwanted ops tm o = some true ∧ isAlloc o = true ∧ ∃ B mk, dalloc P o (ev tm) = some (B, mk) ∧ EvN hs L (putD tm o.dst (mk (base + i))) (H.put (base + i) (some B)) K) ∨
     (dwanted ops tm o = some true ∧ isAlloc o = false ∧ ∃ v G gs G', hs = G :: gs ∧ dop P o (ev tm) G = some (.val v G') ∧
       (isRead o = false ∨ (G'.next = G.next ∧ sameOn P o (ev tm) v (gs.take (gs.length - k)) = true)) ∧ EvN hs L (putD tm o.dst v) H K))

def EvS : List (List (Nat × Nat) × Option Nat) → List Heap → Tr Value → List Deferred → (St → Prop) → Prop
  | [], _, _, _, _ => False
  | (L, none) :: _, hs, tm, ds, K => ∃ G gs, hs = G :: gs ∧ EvN P ops base hs L tm G fun tm1 H1 => K ⟨tm1, ds, H1⟩
  | (L, some e) :: S, hs, tm, ds, K => ∃ G gs o, hs = G :: gs ∧ ops.toList[e]? = some o ∧ EvN P ops base hs L tm G fun tm1 H1 =>
    (dwanted ops tm1 o = some false ∧ EvS S (H1 :: hs) (putD tm1 o.dst undef) ds K) ∨
    (dwanted ops tm1 o = some true ∧ Ev1 P ok x o (ev tm1) ds H1 fun v ds1 H2 => EvS S (H2 :: hs) (putD tm1 o.dst v) ds1 K)
end

section
variable {P : Program} {ok : Ok} {x : Ctx} {ops : Array Oper} {base : Nat}

theorem dst_tm (tm : Tr Value) (d : Option Tmp) (v : Value) : (match d with | some d => tm.put d (some v) | none => tm) = putD tm d v := by cases d <;> rfl

theorem dnon_of {effs : List Nat} {b : Array Nat} {hs : List Heap} {K : Tr Value → Heap → Prop} : ∀ (L : List Nat) (tm : Tr Value) (H : Heap),
    EvN P ops base hs (L.map fun i => (i, effsIn effs (b.getD i 0))) tm H K → ∃ tm1 H1, dnon P ops b effs base hs L tm H = some (tm1, H1) ∧ K tm1 H1
  | [], tm, H, h => ⟨tm, H, by rw [dnon], h⟩
  | i :: L, tm, H, h => by
    obtain ⟨o, ho, h⟩ := h
    have ho' : ops[i]? = some o := by simpa using ho
    rcases h with ⟨hw, h⟩ | ⟨hw, ha, B, mk, hd, h⟩ | ⟨hw, ha, v, G, gs, G', rfl, hd, hr, h⟩
    · obtain ⟨tm1, H1, e, hk⟩ := dnon_of L _ _ h
      refine ⟨tm1, H1, ?_, hk⟩
      rw [dnon, ho']
      simp only [hw, dst_tm]
      exact e
    · obtain ⟨tm1, H1, e, hk⟩ := dnon_of L _ _ h
      refine ⟨tm1, H1, ?_, hk⟩
      rw [dnon, ho']
      simp only [hw, ha, hd, dst_tm]
      exact e
    · obtain ⟨tm1, H1, e, hk⟩ := dnon_of L _ _ h
      refine ⟨tm1, H1, ?_, hk⟩
      rw [dnon, ho']
      simp only [hw, ha, hd, dst_tm]
      have hc : (!isRead o || (Nat.beq G'.next G.next && sameOn P o (ev tm) v (gs.take (gs.length - effsIn effs (b.getD i 0))))) = true := by
        rcases hr with hr | ⟨h1, h2⟩
        · rw [hr]; rfl
        · rw [h1, h2]; simp
      simp only [hc]
      exact e

def EvDr (P : Program) (ok : Ok) (x : Ctx) (ops : Array Oper) (b : Array Nat) (effs : List Nat) (base : Nat) (es : List Nat) (done : Nat) (hs : List Heap) (tm : Tr Value) (ds : List Deferred) (K : St → Prop) : Prop :=
  Upon (fun n => ddraw P ok n x ops b effs base es done hs tm ds) K

theorem ddraw_of {K : St → Prop} {b : Array Nat} {effs : List Nat} : ∀ (es : List Nat) (done : Nat) (hs : List Heap) (tm : Tr Value) (ds : List Deferred), noTwin b es = true →
    EvS P ok x ops base ((schedGo ops.size b effs es done).map fun p => (p.1.map fun i => (i, effsIn effs (b.getD i 0)), p.2)) hs tm ds K →
    EvDr P ok x ops b effs base es done hs tm ds K
  | [], done, hs, tm, ds, _, h => by
    obtain ⟨G, gs, rfl, h⟩ := h
    obtain ⟨tm1, H1, e, hk⟩ := dnon_of _ _ _ h
    refine Upon.go (f := fun n => dstage P ok n x ops b effs base [] done (G :: gs) tm ds) (fun n => by rw [ddraw]; rfl) (Upon.now (fun n => ?_) hk)
    rw [dstage]
    simp only [e]
  | e :: es, done, hs, tm, ds, ht, h => by
    unfold noTwin at ht
    rw [Bool.and_eq_true, Option.isNone_iff_eq_none] at ht
    refine Upon.go (f := fun n => dstage P ok n x ops b effs base (e :: es) done hs tm ds) (fun n => by rw [ddraw, ht.1]) ?_
    obtain ⟨G, gs, o, rfl, ho, h⟩ := h
    have ho' : ops[e]? = some o := by simpa using ho
    obtain ⟨tm1, H1, en, hk⟩ := dnon_of _ _ _ h
    rcases hk with ⟨hw, hk⟩ | ⟨hw, hk⟩
    · refine Upon.go (fun n => ?_) (ddraw_of es _ _ _ ds ht.2 hk)
      rw [dstage]
      simp only at en
      simp only [en, ho', hw]
      cases o.dst <;> rfl
    · refine Upon.step (fun n r => match r with | .val v ds1 H2 => ddraw P ok n x ops b effs base es (done ||| b.getD e 0 ||| 2 ^ e) (H2 :: G :: gs) (putD tm1 o.dst v) ds1 | _ => none) (fun n r hr => ?_) hk ?_
      · rw [dstage]
        simp only at en
        simp only [en, ho', hw, hr]
        cases r <;> cases o.dst <;> rfl
      · rintro r ⟨v, ds1, H2, rfl, hk⟩
        exact ddraw_of es _ _ _ ds1 ht.2 hk

/-- A REGION THAT DRAWS, by its stages. -/
theorem EvC.draw {id : Nat} {st : St} {Q : Ex → St → Prop} {S : List (List (Nat × Nat) × Option Nat)} (hS : sched ops = S)
    (h : EvS P ok x ops st.H.next S [⟨st.H.next + ops.size, st.H.t⟩] st.tm st.ds (Q .normal)) : EvC P ok x (.region id ops true) st Q := by
  subst hS
  unfold sched at h
  split at h
  · exact h.elim
  rename_i hnt
  rw [Bool.not_eq_false] at hnt
  refine Upon.step (fun n st1 => some (.normal, st1)) (fun n r hr => ?_) (ddraw_of (b := Region.before ops) (effs := effsOf ops) (effsOf ops) 0 [⟨st.H.next + ops.size, st.H.t⟩] st.tm st.ds hnt h) ?_
  · have e : dcode P ok (n + 1) x (.region id ops true) st = (match ddraw P ok n x ops (Region.before ops) (effsOf ops) st.H.next (effsOf ops) 0 [⟨st.H.next + ops.size, st.H.t⟩] st.tm st.ds with
        | some st1 => some (.normal, st1)
        | none => none) := by
      rw [dcode]; rfl
    rw [e, hr]
  · intro r hq
    exact ⟨0, _, fun n _ => rfl, hq⟩
end
end Go.Hb
