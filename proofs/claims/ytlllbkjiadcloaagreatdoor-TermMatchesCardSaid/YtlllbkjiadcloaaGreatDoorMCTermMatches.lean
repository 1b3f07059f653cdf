import Derived.Test.YtlllbkjiadcloaaGreatDoorM8
import Derived.Test.YtlllbkjiadcloaaGreatDoorM9
import Derived.Test.YtlllbkjiadcloaaGreatDoorCards
import Derived.Test.YtlllbkjiadcloaaGreatDoorTie
import Derived.WalkKit
import Derived.ProofKit
import Derived.OpenShut
import Derived.Deep.DeepHandedRow
import Derived.Lib.LaidIn
/- 'hornbeam/hornbeamlaw02.TermMatches': the card, out of the run over the whole world. -/
namespace Go.Proofs.YtlllbkjiadcloaaGreatDoor.termMatches
open Go.ChangeShapes Go.WideShapes Go.ChangeAt Go.RowKit Go.Hb Go.Proofs.hq Go.Lib Go.Shelf

theorem own : ownKnob Tryz.prog.godebug = none := by kernel_rfl
theorem out : laidOutB Tryz.prog = true := by kernel_rfl
theorem pars : Tryz.f3.params.toList.all (fun t => Tryz.prog.readableRec t && decide (t < Tryz.prog.types.size)) = true := by kernel_rfl

theorem zmz {W : World} (hL : laidMetH Tryz.prog Rows.termMatchesRow.laid W) : Lib.Utf8Tabs (laysValid_ren.g 3) (laysValid_ren.g 4) W := by
  have e1 : Rows.laid_unicode_utf8_first = firstData := by kernel_rfl
  have e2 : Rows.laid_unicode_utf8_acceptRanges = acceptData := by kernel_rfl
  refine utf8Tabs_of_readsT (U8Types.of196 laysValid) ⟨by kernel_rfl, by kernel_rfl, by kernel_rfl, by kernel_rfl, by kernel_rfl, by kernel_rfl, by kernel_rfl⟩ (e1 ▸ Lib.laidMet.reads hL (.tail _ (.head _))) (e2 ▸ Lib.laidMet.reads hL (.head _))
theorem zbr : TermTypes Tryz.prog 25 23 3 9 22 := ⟨⟨_, Tryz.underlying25, rfl⟩, Tryz.underlying23, Tryz.underlying3, Tryz.underlying9, Tryz.underlying22, by kernel_rfl, by kernel_rfl, by kernel_rfl, by kernel_rfl, by kernel_rfl⟩

set_option maxRecDepth 100000 in
theorem zk7 (H : Type) (enc : TypeId × Value → H) (W : World) (base : Nat) (args : Array Value) (ds gs : List (DataW H)) (before : List MemPlace)
    (hval : ∀ (j : Nat) t v, Tryz.f3.params[j]? = some t → args[j]? = some v → Value.okWide Tryz.prog W .any base t v)
    (hW : DataW.Whole enc Tryz.prog Tryz.f3.params.toList Rows.termMatchesSpec.vars false W args.toList ds gs before) (hT : Lib.Utf8Tabs (laysValid_ren.g 3) (laysValid_ren.g 4) W) :
    Calls Tryz.prog 3 args W fun e W' => ∃ v, e = .returned v ∧ Rows.termMatchesSpec.post enc Tryz.prog Tryz.f3 false true false false W args v W' := by
  refine zc5 out pars rfl rfl Tryz.underlying4 (fun ds hd => by
    have hd' : ds.length = 2 := hd
    match ds, hd' with
    | [_, _], _ => exact ⟨rfl, rfl, rfl⟩) hW (zgs (mask := 2 ^ 133 - 1) (fa := 4) (fv := 67) zlg zlh zfu (fun s w hs hB => zfv hT rfl s w hs hB) ?_)
  obtain ⟨p, q, hA, _⟩ := hW
  obtain ⟨v, v', d, d', p1, p2, rfl, rfl, rfl, ⟨fuel, ht⟩, ⟨fuel', ht'⟩⟩ := trodAll_two hA
  have hv := hval 0 25 v rfl rfl
  unfold Value.okWide at hv
  rw [Tryz.underlying25] at hv
  obtain ⟨cs, rfl, -⟩ := hv
  obtain ⟨t, hr⟩ := z7l zbr fuel _ _ _ ht
  have hv' := hval 1 25 v' rfl rfl
  unfold Value.okWide at hv'
  rw [Tryz.underlying25] at hv'
  obtain ⟨cs', rfl, -⟩ := hv'
  obtain ⟨t', hr'⟩ := z7l zbr fuel' _ _ _ ht'
  obtain ⟨cs⟩ := cs
  obtain ⟨cs'⟩ := cs'
  exact z7r hr hr' ziy

/-- a witness: zeros, and the tables as they are laid -/
noncomputable def zeros : Array Value := Tryz.f3.params.map fun t => ((Tryz.prog.info? t).bind (·.zero)).getD undef
noncomputable def laidWorld (os : Os) : World :=
  let w0 := World.holding Tryz.prog os ⟨#[], #[], []⟩
  let put (h : Array Obj) (g : Nat) (cs : Array Value) : Array Obj := h.modify g fun
    | .cells _ t frozen => .cells cs t frozen
    | o => o
  let h0 := put w0.heap 2 (([128, 191, 160, 191, 128, 159, 144, 191, 128, 143, 0, 0, 0, 0, 0, 0, 0, 0, 0, 0, 0, 0, 0, 0, 0, 0, 0, 0, 0, 0, 0, 0] : List Int).map fun z => Value.int .u8 z).toArray
  let h1 := put h0 1 (Pinned.utf8FirstZ.map fun (z : Nat) => Value.int .u8 z).toArray
  { w0 with heap := h1 }
theorem zk8 (os : Os) (args : Array Value) : laidMet Tryz.prog Rows.termMatchesRow.laid ((laidWorld os).forCall (fun _ _ => 0) ⟨#[], args, []⟩).memory :=
  (LaidIn.of_run (l := Rows.termMatchesRow.laid) [2, 1] 8 (by kernel_rfl) (by kernel_rfl) (by kernel_rfl) (by kernel_rfl)).met
theorem reads (os : Os) {H : Type} (enc : TypeId × Value → H) : (DataW.whole enc Tryz.prog ((laidWorld os).forCall (fun _ _ => 0) ⟨#[], zeros, []⟩).memory Tryz.f3.params.toList Rows.termMatchesSpec.vars false zeros.toList 8).isSome = true := by kernel_rfl

set_option maxRecDepth 100000 in
theorem znx (os : Os) (started : os.Started) (H : Type) (enc : TypeId × Value → H) (F : Stop.Interp) :
    ReturnsInHanded {} Tryz.checked os 3 .any ((OpenSpec.ofChange Rows.termMatchesSpec).preRow enc Tryz.prog Tryz.f3 Rows.termMatchesRow.domain false Rows.termMatchesRow.laid) (((OpenSpec.ofChange Rows.termMatchesSpec).at F).post enc Tryz.prog Tryz.f3 false true false false) := by
  obtain ⟨x, hx⟩ := Option.isSome_iff_exists.1 (reads os enc)
  refine returnsInHanded_of_row (C := Tryz.checked) (s := OpenSpec.ofChange Rows.termMatchesSpec) own started (by kernel_rfl) Tryz.func3
    (witness_row_at (enc := enc) (C := Tryz.checked) false (laidWorld os) zeros rfl (by kernel_rfl) (by kernel_rfl) (by kernel_rfl)
      (OpenSpec.preRow_of_cond 8 hx rfl (fun k hk => by cases hk) (by kernel_rfl) (zk8 os _))) ?_
  intro W base args ds gs before hval hW _ _ _ hL _ _
  exact zk7 H enc W base args ds gs before hval hW (zmz hL)

theorem said : Rows.TermMatchesSaid :=
  OpenClaim.holds_of_cond 3 Tryz.f3 rfl rfl rfl rfl rfl rfl rfl ⟨rfl, rfl, rfl, rfl, rfl⟩ rfl rfl rfl rfl rfl (by kernel_rfl) Tryz.func3 (by kernel_rfl)
    (of_decide_eq_true (by kernel_rfl)) (by unfold Func.isWrapper; first | (rw [if_pos (by decide +kernel)]; kernel_rfl) | (rw [if_neg (by decide +kernel)]; exact ⟨rfl, rfl⟩))
    (fun os started H enc _ F => by rw [OpenClaim.pre_eq_preRow]; exact znx os started H enc F)

theorem plain (f : FuncId) (fn : Func) (hf : Tryz.pinned.checked.prog.funcNamed "hornbeam/hornbeamlaw02.TermMatches" = some f) (hfn : Tryz.pinned.checked.prog.funcs[f]? = some fn) :
    false = Tryz.pinned.checked.prog.looks [] ∧ ∀ (j : Nat) t, fn.params[j]? = some t → Tryz.pinned.checked.prog.wantsStandIn t = false := by
  obtain rfl : f = 3 := Option.some.inj ((show Tryz.prog.funcNamed "hornbeam/hornbeamlaw02.TermMatches" = some 3 by kernel_rfl).symm.trans hf) |>.symm
  obtain rfl : fn = Tryz.f3 := (Option.some.inj (Tryz.func3.symm.trans hfn)).symm
  refine ⟨by kernel_rfl, fun j t ht => ?_⟩
  have hall : (Tryz.f3.params.toList.all fun t => !Tryz.prog.wantsStandIn t) = true := by kernel_rfl
  have := List.all_eq_true.1 hall t (List.mem_of_getElem? (i := j) (by rw [Array.getElem?_toList]; exact ht))
  exact (show Tryz.prog.wantsStandIn t = false by simpa using this)

theorem card : Rows.TermMatchesCardSaid :=
  Claim7.holds_tied_plain_at .later [] _ _ _ _ said (fun _ h => by cases h) (by kernel_rfl) (fun _ h => by cases h) termMatches_row_tie rfl ⟨rfl, rfl⟩ (by kernel_rfl) rfl plain (by kernel_rfl)
end Go.Proofs.YtlllbkjiadcloaaGreatDoor.termMatches
