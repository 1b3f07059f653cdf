/- Runs of the abstract machine over values with variables in them: what a run reaches with enough fuel. -/
import Derived.Test.YtgcbbaeokigbdaaDoorHbArgs2
namespace Go.Hb
open Go Go.RowKit

/-- with enough fuel, and with any more -/
def Upon {α : Type} (f : Nat → Option α) (Q : α → Prop) : Prop := ∃ N r, (∀ n, N ≤ n → f n = some r) ∧ Q r

theorem Upon.mono {α : Type} {f : Nat → Option α} {Q R : α → Prop} (h : Upon f Q) (k : ∀ r, Q r → R r) : Upon f R := by
  obtain ⟨N, r, h1, h2⟩ := h; exact ⟨N, r, h1, k r h2⟩

theorem Upon.now {α : Type} {f : Nat → Option α} {Q : α → Prop} {r : α} (h : ∀ n, f (n + 1) = some r) (hq : Q r) : Upon f Q :=
  ⟨1, r, fun n hn => by obtain ⟨m, rfl⟩ : ∃ m, n = m + 1 := ⟨n - 1, by omega⟩; exact h m, hq⟩

theorem Upon.step {α β : Type} {f : Nat → Option α} {g : Nat → Option β} {R : α → Prop} {Q : β → Prop} (k : Nat → α → Option β) (hg : ∀ n r, f n = some r → g (n + 1) = k n r)
    (hf : Upon f R) (hk : ∀ r, R r → Upon (fun n => k n r) Q) : Upon g Q := by
  obtain ⟨N, r, h1, h2⟩ := hf
  obtain ⟨M, q, h3, h4⟩ := hk r h2
  refine ⟨max N M + 1, q, fun n hn => ?_, h4⟩
  obtain ⟨m, rfl⟩ : ∃ m, n = m + 1 := ⟨n - 1, by omega⟩
  rw [hg m r (h1 m (by omega))]
  exact h3 m (by omega)

theorem Upon.go {α : Type} {f g : Nat → Option α} {Q : α → Prop} (hg : ∀ n, g (n + 1) = f n) (hf : Upon f Q) : Upon g Q := by
  obtain ⟨N, r, h1, h2⟩ := hf
  refine ⟨N + 1, r, fun n hn => ?_, h2⟩
  obtain ⟨m, rfl⟩ : ∃ m, n = m + 1 := ⟨n - 1, by omega⟩
  rw [hg]; exact h1 m (by omega)

section
variable (P : Program) (ok : Ok) (x : Ctx)

def EvC (c : Code) (st : St) (Q : Ex → St → Prop) : Prop := Upon (fun n => dcode P ok n x c st) fun p => Q p.1 p.2
def EvO (ops : Array Oper) (l : List Nat) (st : St) (Q : Ex → St → Prop) : Prop := Upon (fun n => dops P ok n x ops l st) fun p => Q p.1 p.2
def EvF (f : FuncId) (args : List Value) (H : Heap) (K : Value → Heap → Prop) : Prop := Upon (fun n => dcall P ok n f args H) fun p => ∃ v, p.1 = .ret v ∧ K v p.2
def EvV (fn : Func) (tm : Tr Value) (ds : List Deferred) (H : Heap) (K : Value → Heap → Prop) : Prop := Upon (fun n => dleave P ok n fn tm ds none H) fun p => ∃ v, p.1 = .ret v ∧ K v p.2
def Ev1 (o : Oper) (ρ : Operand → Value) (ds : List Deferred) (H : Heap) (K : Value → List Deferred → Heap → Prop) : Prop :=
  Upon (fun n => dop1 P ok n x o ρ ds H) fun r => ∃ v ds' H', r = .val v ds' H' ∧ K v ds' H'
def EvR (l : Nat) (args : List Value) (H : Heap) (K : Value → Heap → Prop) : Prop := Upon (fun n => dround P ok n l args H) fun p => K p.1 p.2

/-- operations one after another -/
def EvL (ops : Array Oper) : List Oper → St → (St → Prop) → Prop
  | [], st, Q => Q st
  | o :: os, st, Q =>
    (dwanted ops st.tm o = some false ∧ EvL ops os ⟨putD st.tm o.dst undef, st.ds, st.H⟩ Q) ∨
    (dwanted ops st.tm o = some true ∧ Ev1 P ok x o (ev st.tm) st.ds st.H fun v ds H => EvL ops os ⟨putD st.tm o.dst v, ds, H⟩ Q)
end

def Ex.thenC (k : St → Prop) (Q : Ex → St → Prop) : Ex → St → Prop
  | .normal, st => k st
  | e, st => Q e st
def Ex.inBlock (id : Nat) (Q : Ex → St → Prop) : Ex → St → Prop
  | .exit j, st => if j = id then Q .normal st else Q (.exit j) st
  | e, st => Q e st
def Ex.leave (P : Program) (ok : Ok) (fn : Func) (K : Value → Heap → Prop) : Ex → St → Prop
  | .normal, st | .ret, st => EvV P ok fn st.tm st.ds st.H K
  | _, _ => False

section
variable {P : Program} {ok : Ok} {x : Ctx} {st : St} {Q : Ex → St → Prop}

theorem EvC.mono {c : Code} {R : Ex → St → Prop} (h : EvC P ok x c st Q) (k : ∀ e st, Q e st → R e st) : EvC P ok x c st R := Upon.mono h fun _ hq => k _ _ hq
theorem EvF.mono {f : FuncId} {args : List Value} {H : Heap} {K L : Value → Heap → Prop} (h : EvF P ok f args H K) (k : ∀ v H', K v H' → L v H') : EvF P ok f args H L :=
  Upon.mono h fun _ ⟨v, e, hq⟩ => ⟨v, e, k _ _ hq⟩
theorem Ev1.mono {o : Oper} {ρ : Operand → Value} {ds : List Deferred} {H : Heap} {K L : Value → List Deferred → Heap → Prop} (h : Ev1 P ok x o ρ ds H K) (k : ∀ v d H', K v d H' → L v d H') : Ev1 P ok x o ρ ds H L :=
  Upon.mono h fun _ ⟨v, ds', H', e, hq⟩ => ⟨v, ds', H', e, k _ _ _ hq⟩

theorem EvC.skip (h : Q .normal st) : EvC P ok x .skip st Q := Upon.now (fun n => by rw [dcode]) h
theorem EvC.exit {id : Nat} (h : Q (.exit id) st) : EvC P ok x (.exit id) st Q := Upon.now (fun n => by rw [dcode]) h
theorem EvC.ret (h : Q .ret st) : EvC P ok x .ret st Q := Upon.now (fun n => by rw [dcode]) h
theorem EvC.scope {c : Code} (h : EvC P ok x c st Q) : EvC P ok x (.scope c) st Q := Upon.go (fun n => by rw [dcode]) h

theorem EvC.seq {a b : Code} (h : EvC P ok x a st (Ex.thenC (fun st1 => EvC P ok x b st1 Q) Q)) : EvC P ok x (.seq a b) st Q := by
  refine Upon.step (fun n (r : Ex × St) => match r with | (.normal, st1) => dcode P ok n x b st1 | r => some r) (fun n r hr => ?_) h ?_
  · rw [dcode, hr]
    obtain ⟨e, s⟩ := r
    cases e <;> rfl
  · rintro ⟨e, s⟩ hq
    cases e with
    | normal => exact hq
    | _ => exact ⟨0, _, fun n _ => rfl, hq⟩

theorem EvC.condT {c : Operand} {a b : Code} (hc : ev st.tm c = .bool true) (h : EvC P ok x a st Q) : EvC P ok x (.cond c a b) st Q := Upon.go (fun n => by rw [dcode, hc]) h
theorem EvC.condF {c : Operand} {a b : Code} (hc : ev st.tm c = .bool false) (h : EvC P ok x b st Q) : EvC P ok x (.cond c a b) st Q := Upon.go (fun n => by rw [dcode, hc]) h
theorem EvC.cond {c : Operand} {a b : Code} (t : Bool) (hc : ev st.tm c = .bool t) (h1 : t = true → EvC P ok x a st Q) (h2 : t = false → EvC P ok x b st Q) : EvC P ok x (.cond c a b) st Q := by
  cases t with
  | true => exact .condT hc (h1 rfl)
  | false => exact .condF hc (h2 rfl)

theorem EvC.block {id : Nat} {b : Code} (h : EvC P ok x b st (Ex.inBlock id Q)) : EvC P ok x (.block id b) st Q := by
  refine Upon.step (fun n (r : Ex × St) => match r with | (.exit j, st1) => if Nat.beq j id then some (.normal, st1) else some (.exit j, st1) | r => some r) (fun n r hr => ?_) h ?_
  · rw [dcode, hr]
    obtain ⟨e, s⟩ := r
    cases e <;> rfl
  · rintro ⟨e, s⟩ hq
    cases e with
    | exit j =>
      simp only [Ex.inBlock] at hq
      by_cases hj : j = id
      · rw [if_pos hj] at hq
        exact ⟨0, _, fun n _ => by simp only [hj, Nat.beq_refl, if_true]; rfl, hq⟩
      · rw [if_neg hj] at hq
        have : Nat.beq j id = false := by rw [← Bool.not_eq_true, Nat.beq_eq]; exact hj
        exact ⟨0, _, fun n _ => by simp only [this]; rfl, hq⟩
    | _ => exact ⟨0, _, fun n _ => rfl, hq⟩

theorem EvC.loop1 {b : Code} (h : EvC P ok x b st (Ex.thenC (fun st1 => EvC P ok x (.loop b) st1 Q) Q)) : EvC P ok x (.loop b) st Q := by
  refine Upon.step (fun n (r : Ex × St) => match r with | (.normal, st1) => dcode P ok n x (.loop b) st1 | r => some r) (fun n r hr => ?_) h ?_
  · rw [dcode, hr]
    obtain ⟨e, s⟩ := r
    cases e <;> rfl
  · rintro ⟨e, s⟩ hq
    cases e with
    | normal => exact hq
    | _ => exact ⟨0, _, fun n _ => rfl, hq⟩

/-- A LOOP: the relation holds at its head; each round comes back to it with less left, or leaves. -/
theorem EvC.loop {b : Code} (I : Nat → St → Prop) (hI : ∀ k st, I k st → EvC P ok x b st (Ex.thenC (fun st1 => ∃ k', k' < k ∧ I k' st1) Q)) : ∀ (k : Nat) (st : St), I k st → EvC P ok x (.loop b) st Q := by
  intro k
  induction k using Nat.strongRecOn with
  | _ k ih =>
    intro st h
    refine EvC.loop1 ((hI k st h).mono fun e st1 hq => ?_)
    cases e with
    | normal => obtain ⟨k', hk, hI'⟩ := hq; exact ih k' hk st1 hI'
    | _ => exact hq

/-! ## Operations -/
theorem EvO.nil {ops : Array Oper} (h : Q .normal st) : EvO P ok x ops [] st Q := Upon.now (fun n => by rw [dops]) h

theorem EvO.of_list {ops : Array Oper} {K : St → Prop} (hQ : ∀ st, K st → Q .normal st) : ∀ (l : List Nat) (os : List Oper) (st : St), l.map (fun i => ops[i]?) = os.map some → EvL P ok x ops os st K → EvO P ok x ops l st Q
  | [], [], st, _, h => EvO.nil (hQ _ h)
  | [], _ :: _, _, h, _ => by simp at h
  | _ :: _, [], _, h, _ => by simp at h
  | i :: l, o :: os, st, hl, h => by
    simp only [List.map_cons, List.cons.injEq] at hl
    rcases h with ⟨hw, h⟩ | ⟨hw, h⟩
    · refine Upon.go (fun n => ?_) (EvO.of_list hQ l os _ hl.2 h)
      rw [dops, hl.1]
      simp only [hw]
      cases o.dst <;> rfl
    · refine Upon.step (fun n r => match r with | .val v ds H => dops P ok n x ops l (St.put ⟨st.tm, ds, st.H⟩ o.dst v H) | .panic ch H => some (.panic ch, ⟨st.tm, st.ds, H⟩)) (fun n r hr => ?_) h ?_
      · rw [dops, hl.1]
        simp only [hw, hr]
        cases r <;> rfl
      · rintro r ⟨v, ds, H, rfl, hr⟩
        have := EvO.of_list hQ l os _ hl.2 hr
        refine this.imp fun N => ?_
        rintro ⟨r, h1, h2⟩
        refine ⟨r, fun n hn => ?_, h2⟩
        rw [← h1 n hn]
        cases o.dst <;> rfl

theorem range_opers (ops : Array Oper) : (List.range ops.size).map (fun i => ops[i]?) = ops.toList.map some := by
  apply List.ext_getElem?
  intro i
  simp only [List.getElem?_map, List.getElem?_range]
  by_cases h : i < ops.size
  · simp [h]
  · simp [h]

theorem EvC.ops {id : Nat} {ops : Array Oper} (h : EvL P ok x ops ops.toList st (Q .normal)) : EvC P ok x (.region id ops false) st Q :=
  Upon.go (fun n => by rw [dcode]) (EvO.of_list (K := Q .normal) (fun _ h => h) _ _ st (range_opers ops) h)

theorem wanted_none {ops : Array Oper} {tm : Tr Value} {o : Oper} (h : o.guard = none) : dwanted ops tm o = some true := by unfold dwanted; rw [h]

theorem Ev1.val {o : Oper} {ρ : Operand → Value} {ds : List Deferred} {H H' : Heap} {v : Value} {K : Value → List Deferred → Heap → Prop} (h : dop P o ρ H = some (.val v H')) (hk : K v ds H') : Ev1 P ok x o ρ ds H K :=
  Upon.now (r := .val v ds H') (fun n => by rw [dop1, h]) ⟨v, ds, H', rfl, hk⟩
theorem Ev1.call {o : Oper} {ρ : Operand → Value} {ds : List Deferred} {H : Heap} {f : FuncId} {args : List Value} {K : Value → List Deferred → Heap → Prop} (h : dop P o ρ H = some (.call f args))
    (hk : EvF P ok f args H fun v H' => K v ds H') : Ev1 P ok x o ρ ds H K := by
  refine Upon.step (fun n (r : En × Heap) => match r with | (.ret v, H') => some (.val v ds H') | (.panic ch, H') => some (.panic ch H')) (fun n r hr => ?_) hk ?_
  · rw [dop1, h]
    simp only [hr]
    obtain ⟨e, H'⟩ := r
    cases e <;> rfl
  · rintro ⟨e, H'⟩ ⟨v, rfl, hv⟩
    exact ⟨0, _, fun n _ => rfl, v, ds, H', rfl, hv⟩
theorem Ev1.yield {o : Oper} {ρ : Operand → Value} {ds : List Deferred} {H : Heap} {l : Nat} {args : List Value} {K : Value → List Deferred → Heap → Prop} (h : dop P o ρ H = some (.yield l args))
    (hk : EvR P ok l args H fun v H' => K v ds H') : Ev1 P ok x o ρ ds H K := by
  refine Upon.step (fun n (r : Value × Heap) => some (.val r.1 ds r.2)) (fun n r hr => ?_) hk ?_
  · rw [dop1, h]
    simp only [hr]
  · rintro ⟨v, H'⟩ hv
    exact ⟨0, _, fun n _ => rfl, v, ds, H', rfl, hv⟩

section
variable {ops : Array Oper} {os : List Oper} {tm : Tr Value} {ds : List Deferred} {H : Heap} {K : St → Prop} {op : Op} {ty : TypeId} {pos : String} {af : Array Edge}

/-- an operation with a value -/
theorem EvL.val {d : Tmp} {v : Value} {H' : Heap} (h : dop P ⟨some d, op, ty, pos, af, none⟩ (ev tm) H = some (.val v H')) (hk : EvL P ok x ops os ⟨tm.put d (some v), ds, H'⟩ K) :
    EvL P ok x ops (⟨some d, op, ty, pos, af, none⟩ :: os) ⟨tm, ds, H⟩ K := .inr ⟨rfl, Ev1.val h hk⟩
/-- one without -/
theorem EvL.unit {v : Value} {H' : Heap} (h : dop P ⟨none, op, ty, pos, af, none⟩ (ev tm) H = some (.val v H')) (hk : EvL P ok x ops os ⟨tm, ds, H'⟩ K) :
    EvL P ok x ops (⟨none, op, ty, pos, af, none⟩ :: os) ⟨tm, ds, H⟩ K := .inr ⟨rfl, Ev1.val h hk⟩
/-- a call -/
theorem EvL.call {d : Tmp} {f : FuncId} {args : List Value} (h : dop P ⟨some d, op, ty, pos, af, none⟩ (ev tm) H = some (.call f args))
    (hk : EvF P ok f args H fun v H' => EvL P ok x ops os ⟨tm.put d (some v), ds, H'⟩ K) : EvL P ok x ops (⟨some d, op, ty, pos, af, none⟩ :: os) ⟨tm, ds, H⟩ K := .inr ⟨rfl, Ev1.call h hk⟩
theorem EvL.callU {f : FuncId} {args : List Value} (h : dop P ⟨none, op, ty, pos, af, none⟩ (ev tm) H = some (.call f args))
    (hk : EvF P ok f args H fun _ H' => EvL P ok x ops os ⟨tm, ds, H'⟩ K) : EvL P ok x ops (⟨none, op, ty, pos, af, none⟩ :: os) ⟨tm, ds, H⟩ K := .inr ⟨rfl, Ev1.call h hk⟩
/-- guarded ones -/
theorem EvL.guardT {o : Oper} (hw : dwanted ops tm o = some true) (h : Ev1 P ok x o (ev tm) ds H fun v ds H => EvL P ok x ops os ⟨putD tm o.dst v, ds, H⟩ K) :
    EvL P ok x ops (o :: os) ⟨tm, ds, H⟩ K := .inr ⟨hw, h⟩
theorem EvL.guardF {o : Oper} (hw : dwanted ops tm o = some false) (h : EvL P ok x ops os ⟨putD tm o.dst undef, ds, H⟩ K) :
    EvL P ok x ops (o :: os) ⟨tm, ds, H⟩ K := .inl ⟨hw, h⟩
end

/-! ## Calls -/
theorem EvF.enter {f : FuncId} {fn : Func} {c : Code} {args : List Value} {H : Heap} {K : Value → Heap → Prop} (hK : ok.K f args H = none) (hf : P.funcs[f]? = some fn) (hm : ok.testBit f = true) (hb : fn.body = some c)
    (h : EvC P ok ⟨f, none⟩ c ⟨initTm 0 args .nil, [], H⟩ (Ex.leave P ok fn K)) : EvF P ok f args H K := by
  refine Upon.step (fun n (r : Ex × St) => match r with | (.normal, st) | (.ret, st) => dleave P ok n fn st.tm st.ds none st.H | (.panic ch, st) => dleave P ok n fn st.tm st.ds (some ch) st.H | _ => none) (fun n r hr => ?_) h ?_
  · rw [dcall, hK]
    simp only [hf, hm, hb, hr]
    obtain ⟨e, s⟩ := r
    cases e <;> rfl
  · rintro ⟨e, s⟩ hq
    cases e with
    | normal => exact hq
    | ret => exact hq
    | exit _ => exact hq.elim
    | panic _ => exact hq.elim

theorem EvF.know {f : FuncId} {args : List Value} {H H' : Heap} {v : Value} {K : Value → Heap → Prop} (hK : ok.K f args H = some (.ret v, H')) (h : K v H') : EvF P ok f args H K :=
  Upon.now (r := (.ret v, H')) (fun n => by rw [dcall, hK]) ⟨v, rfl, h⟩

theorem EvV.now {fn : Func} {tm : Tr Value} {H : Heap} {v : Value} {K : Value → Heap → Prop} (hr : dres P fn tm H = some v) (h : K v H) : EvV P ok fn tm [] H K :=
  Upon.now (r := (.ret v, H)) (fun n => by rw [dleave, hr]) ⟨v, rfl, h⟩
theorem EvV.mark {fn : Func} {tm : Tr Value} {ds : List Deferred} {l : Nat} {args : Array Value} {H : Heap} {K : Value → Heap → Prop} (hg : H.get l = some .dfr) (h : EvV P ok fn tm ds (H.put l none) K) :
    EvV P ok fn tm (⟨.collected l, args⟩ :: ds) H K :=
  Upon.go (fun n => by rw [dleave]; simp only [hg]) h
end
end Go.Hb
