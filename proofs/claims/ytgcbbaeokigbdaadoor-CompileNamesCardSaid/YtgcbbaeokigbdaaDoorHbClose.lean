/- From a run of the abstract machine to a law's contract. -/
import Derived.Test.YtgcbbaeokigbdaaDoorHbSnd7
import Derived.RowKit3
import Derived.ChangeSame
namespace Go.Hb
open Go Go.RowKit

def okFn (P : Program) (f : FuncId) : Bool :=
  match P.funcs[f]? with
  | some fn => match fn.body with
    | some c => okCode P.globals.size fn.ntmps c
    | none => true
  | none => true

theorem okFns_code {P : Program} {ok : Nat} (h : ((List.range P.funcs.size).all fun f => !ok.testBit f || okFn P f) = true) : ∀ f fn c, ok.testBit f = true → P.funcs[f]? = some fn → fn.body = some c → okCode P.globals.size fn.ntmps c = true := by
  intro f fn c hb hf hc
  have hlt : f < P.funcs.size := (Array.getElem?_eq_some_iff.1 hf).1
  have := List.all_eq_true.1 h f (List.mem_range.2 hlt)
  rw [hb] at this
  simp only [Bool.not_true, Bool.false_or] at this
  unfold okFn at this
  rw [hf] at this
  simp only [hc] at this
  exact this

theorem okFns_of {P : Program} {ok N : Nat} {w0 : World} (h : ((List.range P.funcs.size).all fun f => !ok.testBit f || okFn P f) = true) : OkFns P N w0 (Ok.run ok) :=
  ⟨okFns_code h, fun τ f args args' H en H' w σ _ hk => by cases hk⟩

def retTrue : Option (En × Heap) → Bool
  | some (.ret (.bool true), _) => true
  | _ => false

theorem retTrue_inv {r : Option (En × Heap)} (h : retTrue r = true) : ∃ H', r = some (.ret (.bool true), H') := by
  unfold retTrue at h
  split at h
  · exact ⟨_, rfl⟩
  · cases h

/-- nothing is known below a number, nothing is there above it -/
def sig0 (nx : Nat) : Nat → Loc := fun i => if i < nx then .dead else .none

theorem HR.start {P : Program} {τ : Nat → Value} (nx : Nat) (W : World) : HR P W.heap.size W τ (sig0 nx) ⟨nx, .nil⟩ W := by
  refine ⟨Below.refl _ _, Nat.le_refl _, fun i hi => ?_, fun i B hB => ?_, fun i j b S es S' es' hi => ?_, fun i b S es hi => ?_⟩
  · have hi' : nx ≤ i := hi
    unfold sig0; rw [if_neg (by omega)]
  · cases hB
  · unfold sig0 at hi; split at hi <;> cases hi
  · unfold sig0 at hi; split at hi <;> cases hi

theorem GR.start {P : Program} {nx : Nat} (h : P.globals.size ≤ nx) : GR P (sig0 nx) := fun g hg => .inl (by unfold sig0; rw [if_pos (by omega)])

/-- A CLOSED RUN: the law returns true, and what was there is as it was. -/
theorem calls_true {P : Program} {ok n nx : Nat} {f : FuncId} {args : List Value} {args' : Array Value} {τ : Nat → Value} (hτ : ∀ j, (τ j).oneCell' = true) (hm : P.follows .mixedOrders = true)
    (hok : ((List.range P.funcs.size).all fun f => !ok.testBit f || okFn P f) = true) (hnx : P.globals.size ≤ nx)
    (hrun : retTrue (dcall P (Ok.run ok) n f args ⟨nx, .nil⟩) = true) (hl : LR (sig0 nx) τ args args'.toList) (W : World) :
    Calls P f args' W fun e W' => e = .returned (.bool true) ∧ Below W.heap.size W W' := by
  obtain ⟨H', h⟩ := retTrue_inv hrun
  refine (calls_of_run hτ hm (okFns_of hok) h hl (HR.start nx W) (GR.start hnx)).mono fun e w' he => ?_
  obtain ⟨σ', hen, hH, _⟩ := he
  cases e with
  | returned v' => exact ⟨by rw [show v' = .bool true from VR.flat_eq hen rfl], hH.below⟩
  | panicked _ => exact hen.elim
  | outgrown => exact hen.elim


section
open Go.ChangeShapes Go.WideShapes
variable {H : Type} {enc : TypeId × Value → H} {P : Program}

/-- What was there is as it was: the arguments read as they did. -/
theorem post_of_below {f : Func} {s : ChangeSpec} {apart fresh handsOn again : Bool} {W W' : World} {args : Array Value} {v : Value} {ds gs : List (DataW H)} {before pa pv : List MemPlace}
    (hW : DataW.Whole enc P f.params.toList s.vars apart W args.toList ds gs before)
    (hres : ∀ (b : Nat) (sp : Nat → Bool) (hd : Bool), DataW.TrodAll enc P W' b sp hd f.resultTypes.toList (v.resultList f.resultTypes.size) (s.fn H (ds ++ gs)).results [])
    (hargs : ∀ sp : Nat → Bool, (∀ p ∈ before, sp p.block = true) → DataW.TrodAll enc P W' 0 sp true f.params.toList args.toList (s.fn H (ds ++ gs)).args pa)
    (hvars : ∀ sp : Nat → Bool, (∀ p ∈ before, sp p.block = true) → DataW.TrodVars enc P W' sp s.vars (s.fn H (ds ++ gs)).vars pv)
    (hps : before = pa ++ pv) (hB : Below W.heap.size W W')
    (hok : ∀ (j : Nat) (t : TypeId) (r : Value), f.resultTypes[j]? = some t → (v.resultList f.resultTypes.size)[j]? = some r → Value.okWide P W' .any 0 t r) :
    s.post enc P f apart fresh handsOn again W args v W' := by
  have hlt : ∀ p ∈ before, p.block < W.heap.size := fun p hp => hW.lt p hp
  have hold : ∀ p ∈ before, (fun b => decide (b < W.heap.size)) p.block = true := fun p hp => by simpa using hW.lt p hp
  refine ⟨ds, gs, before, [], pa, pv, hW, hres _ _ _, hargs _ hold, hvars _ hold, World.keptBut_mono (fun p hp => ⟨hp, ?_⟩) (hB.frame (· ∈ before)), fun _ => ?_⟩
  · rw [hps, List.mem_append] at hp
    exact Or.inr hp
  · obtain ⟨_, _, _, _, _, hz, hn⟩ := hW
    refine ⟨hok, _, _, ([] ++ pa) ++ pv, ⟨[] ++ pa, pv, trodAll_append (hargs _ (fun _ _ => rfl)) (hres _ _ _), hvars _ (fun _ _ => rfl), rfl, ?_, ?_⟩, ?_⟩
    · intro b off hp
      have hp' : MemPlace.cell b off ∈ before := by rw [hps]; simpa using hp
      rw [hB.frozen (hlt _ hp')]
      exact hz b off hp'
    · intro ha
      have := hn ha
      rw [hps] at this
      simpa using this
    · intro p hp _
      rw [hps]
      simpa using hp
end
end Go.Hb
