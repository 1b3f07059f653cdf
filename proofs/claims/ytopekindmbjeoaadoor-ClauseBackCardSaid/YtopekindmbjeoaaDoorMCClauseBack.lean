import Derived.Test.YtopekindmbjeoaaDoorM7
import Derived.Test.YtopekindmbjeoaaDoorM8
import Derived.Test.YtopekindmbjeoaaDoorCards
import Derived.Test.YtopekindmbjeoaaDoorTie
import Derived.WalkKit
import Derived.ProofKit
import Derived.OpenShut
import Derived.Deep.DeepHandedRow
import Derived.Lib.LaidIn
/- 'hornbeam/hornbeamlaw11.ClauseBack': the card, out of the run over the whole world. -/
namespace Go.Proofs.YtopekindmbjeoaaDoor.clauseBack
open Go.ChangeShapes Go.WideShapes Go.ChangeAt Go.RowKit Go.Hb Go.Proofs.hq Go.Lib Go.Shelf

theorem own : ownKnob Tryd.prog.godebug = none := by kernel_rfl
theorem out : laidOutB Tryd.prog = true := by kernel_rfl
theorem pars : Tryd.f4.params.toList.all (fun t => Tryd.prog.readableRec t && decide (t < Tryd.prog.types.size)) = true := by kernel_rfl

theorem zo2 {W : World} (hL : laidMetH Tryd.prog Rows.clauseBackRow.laid W) : Lib.Utf8Tabs (laysValid_ren.g 3) (laysValid_ren.g 4) W := by
  have e1 : Rows.laid_unicode_utf8_first = firstData := by kernel_rfl
  have e2 : Rows.laid_unicode_utf8_acceptRanges = acceptData := by kernel_rfl
  refine utf8Tabs_of_readsT (U8Types.of196 laysValid) ⟨by kernel_rfl, by kernel_rfl, by kernel_rfl, by kernel_rfl, by kernel_rfl, by kernel_rfl, by kernel_rfl⟩ (e1 ▸ Lib.laidMet.reads hL (.tail _ (.head _))) (e2 ▸ Lib.laidMet.reads hL (.head _))
theorem zjz : TermTypes Tryd.prog 25 23 3 9 22 := ⟨⟨_, Tryd.underlying25, rfl⟩, Tryd.underlying23, Tryd.underlying3, Tryd.underlying9, Tryd.underlying22, by kernel_rfl, by kernel_rfl, by kernel_rfl, by kernel_rfl, by kernel_rfl⟩

set_option maxRecDepth 100000 in
theorem zle (H : Type) (enc : TypeId × Value → H) (W : World) (base : Nat) (args : Array Value) (ds gs : List (DataW H)) (before : List MemPlace)
    (hval : ∀ (j : Nat) t v, Tryd.f4.params[j]? = some t → args[j]? = some v → Value.okWide Tryd.prog W .any base t v)
    (hW : DataW.Whole enc Tryd.prog Tryd.f4.params.toList Rows.clauseBackSpec.vars false W args.toList ds gs before) (hT : Lib.Utf8Tabs (laysValid_ren.g 3) (laysValid_ren.g 4) W) :
    Calls Tryd.prog 4 args W fun e W' => ∃ v, e = .returned v ∧ Rows.clauseBackSpec.post enc Tryd.prog Tryd.f4 false true false false W args v W' := by
  refine zd0 out pars rfl rfl Tryd.underlying4 (fun ds hd => by
    have hd' : ds.length = 2 := hd
    match ds, hd' with
    | [_, _], _ => exact ⟨rfl, rfl, rfl⟩) hW (zi1 (mask := 2 ^ 135 - 1) (fa := 5) (fv := 75) zmo zmp zh1 (fun s w hs hB => zh2 hT rfl s w hs hB) ?_)
  obtain ⟨p, q, hA, _⟩ := hW
  obtain ⟨v, v', d, d', p1, p2, rfl, rfl, rfl, -, ⟨fuel', ht'⟩⟩ := trodAll_two hA
  have hs : ∃ s, v = .string s := by
    have h := hval 0 9 v rfl rfl
    unfold Value.okWide at h
    rw [Tryd.underlying9] at h
    cases v <;> simp [Cell.okWide, Cell.ok, Tryd.underlying9] at h ⊢
  obtain ⟨s, rfl⟩ := hs
  have hv' := hval 1 25 v' rfl rfl
  unfold Value.okWide at hv'
  rw [Tryd.underlying25] at hv'
  obtain ⟨cs', rfl, -⟩ := hv'
  obtain ⟨t', hr'⟩ := zdk zjz fuel' _ _ _ ht'
  obtain ⟨cs'⟩ := cs'
  have hb3 : abV Tryd.prog W (.string s) = .string s := rfl
  simp only [List.map_cons, List.map_nil, hb3]
  exact zah hr' zkd

/-- a witness: zeros, and the tables as they are laid -/
noncomputable def zeros : Array Value := Tryd.f4.params.map fun t => ((Tryd.prog.info? t).bind (·.zero)).getD undef
noncomputable def laidWorld (os : Os) : World :=
  let w0 := World.holding Tryd.prog os ⟨#[], #[], []⟩
  let put (h : Array Obj) (g : Nat) (cs : Array Value) : Array Obj := h.modify g fun
    | .cells _ t frozen => .cells cs t frozen
    | o => o
  let h0 := put w0.heap 1 (([128, 191, 160, 191, 128, 159, 144, 191, 128, 143, 0, 0, 0, 0, 0, 0, 0, 0, 0, 0, 0, 0, 0, 0, 0, 0, 0, 0, 0, 0, 0, 0] : List Int).map fun z => Value.int .u8 z).toArray
  let h1 := put h0 0 (Pinned.utf8FirstZ.map fun (z : Nat) => Value.int .u8 z).toArray
  { w0 with heap := h1 }
theorem zlf (os : Os) (args : Array Value) : laidMet Tryd.prog Rows.clauseBackRow.laid ((laidWorld os).forCall (fun _ _ => 0) ⟨#[], args, []⟩).memory :=
  (LaidIn.of_run (l := Rows.clauseBackRow.laid) [1, 0] 8 (by kernel_rfl) (by kernel_rfl) (by kernel_rfl) (by kernel_rfl)).met
theorem reads (os : Os) {H : Type} (enc : TypeId × Value → H) : (DataW.whole enc Tryd.prog ((laidWorld os).forCall (fun _ _ => 0) ⟨#[], zeros, []⟩).memory Tryd.f4.params.toList Rows.clauseBackSpec.vars false zeros.toList 8).isSome = true := by kernel_rfl

set_option maxRecDepth 100000 in
theorem zp0 (os : Os) (started : os.Started) (H : Type) (enc : TypeId × Value → H) (F : Stop.Interp) :
    ReturnsInHanded {} Tryd.checked os 4 .any ((OpenSpec.ofChange Rows.clauseBackSpec).preRow enc Tryd.prog Tryd.f4 Rows.clauseBackRow.domain false Rows.clauseBackRow.laid) (((OpenSpec.ofChange Rows.clauseBackSpec).at F).post enc Tryd.prog Tryd.f4 false true false false) := by
  obtain ⟨x, hx⟩ := Option.isSome_iff_exists.1 (reads os enc)
  refine returnsInHanded_of_row (C := Tryd.checked) (s := OpenSpec.ofChange Rows.clauseBackSpec) own started (by kernel_rfl) Tryd.func4
    (witness_row_at (enc := enc) (C := Tryd.checked) false (laidWorld os) zeros rfl (by kernel_rfl) (by kernel_rfl) (by kernel_rfl)
      (OpenSpec.preRow_of_cond 8 hx rfl (fun k hk => by cases hk) (by kernel_rfl) (zlf os _))) ?_
  intro W base args ds gs before hval hW _ _ _ hL _ _
  exact zle H enc W base args ds gs before hval hW (zo2 hL)

theorem said : Rows.ClauseBackSaid :=
  OpenClaim.holds_of_cond 4 Tryd.f4 rfl rfl rfl rfl rfl rfl rfl ⟨rfl, rfl, rfl, rfl, rfl⟩ rfl rfl rfl rfl rfl (by kernel_rfl) Tryd.func4 (by kernel_rfl)
    (of_decide_eq_true (by kernel_rfl)) (by unfold Func.isWrapper; first | (rw [if_pos (by decide +kernel)]; kernel_rfl) | (rw [if_neg (by decide +kernel)]; exact ⟨rfl, rfl⟩))
    (fun os started H enc _ F => by rw [OpenClaim.pre_eq_preRow]; exact zp0 os started H enc F)

theorem plain (f : FuncId) (fn : Func) (hf : Tryd.pinned.checked.prog.funcNamed "hornbeam/hornbeamlaw11.ClauseBack" = some f) (hfn : Tryd.pinned.checked.prog.funcs[f]? = some fn) :
    true = Tryd.pinned.checked.prog.looks [] ∧ ∀ (j : Nat) t, fn.params[j]? = some t → Tryd.pinned.checked.prog.wantsStandIn t = false := by
  obtain rfl : f = 4 := Option.some.inj ((show Tryd.prog.funcNamed "hornbeam/hornbeamlaw11.ClauseBack" = some 4 by kernel_rfl).symm.trans hf) |>.symm
  obtain rfl : fn = Tryd.f4 := (Option.some.inj (Tryd.func4.symm.trans hfn)).symm
  refine ⟨by kernel_rfl, fun j t ht => ?_⟩
  have hall : (Tryd.f4.params.toList.all fun t => !Tryd.prog.wantsStandIn t) = true := by kernel_rfl
  have := List.all_eq_true.1 hall t (List.mem_of_getElem? (i := j) (by rw [Array.getElem?_toList]; exact ht))
  exact (show Tryd.prog.wantsStandIn t = false by simpa using this)

theorem card : Rows.ClauseBackCardSaid :=
  Claim7.holds_tied_plain_at .later [] _ _ _ _ said (fun _ h => by cases h) (by kernel_rfl) (fun _ h => by cases h) clauseBack_row_tie rfl ⟨rfl, rfl⟩ (by kernel_rfl) rfl plain (by kernel_rfl)
end Go.Proofs.YtopekindmbjeoaaDoor.clauseBack
