import Derived.Test.YtlmjnikipfbenaaGreatDoorM4
import Derived.Test.YtlmjnikipfbenaaGreatDoorCards
import Derived.Test.YtlmjnikipfbenaaGreatDoorTie
import Derived.WalkKit
import Derived.ProofKit
import Derived.OpenShut
import Derived.Deep.DeepHandedRow
import Derived.Lib.LaidIn
/- 'hornbeam/hornbeamlaw08.VfsNone': the card, out of the run over the whole world. -/
namespace Go.Proofs.YtlmjnikipfbenaaGreatDoor.vfsNone
open Go.ChangeShapes Go.WideShapes Go.ChangeAt Go.RowKit Go.Hb Go.Proofs.YtlmjnikipfbenaaGreatDoor.hb Go.Lib Go.Shelf

theorem own : ownKnob Tryz.prog.godebug = none := by kernel_rfl
theorem out : laidOutB Tryz.prog = true := by kernel_rfl
theorem pars : Tryz.f5.params.toList.all (fun t => Tryz.prog.readableRec t && decide (t < Tryz.prog.types.size)) = true := by kernel_rfl

theorem tabs_of {W : World} (hL : laidMetH Tryz.prog Rows.vfsNoneRow.laid W) : Lib.Utf8Tabs (laysValid_ren.g 3) (laysValid_ren.g 4) W := by
  have e1 : Rows.laid_unicode_utf8_first = firstData := by kernel_rfl
  have e2 : Rows.laid_unicode_utf8_acceptRanges = acceptData := by kernel_rfl
  refine utf8Tabs_of_readsT (U8Types.of196 laysValid) ⟨by kernel_rfl, by kernel_rfl, by kernel_rfl, by kernel_rfl, by kernel_rfl, by kernel_rfl, by kernel_rfl⟩ (e1 ▸ Lib.laidMet.reads hL (.tail _ (.tail _ (.tail _ (.tail _ (.head _)))))) (e2 ▸ Lib.laidMet.reads hL (.tail _ (.tail _ (.tail _ (.head _)))))

set_option maxRecDepth 100000 in
theorem contract (H : Type) (enc : TypeId × Value → H) (W : World) (base : Nat) (args : Array Value) (ds gs : List (DataW H)) (before : List MemPlace)
    (hval : ∀ (j : Nat) t v, Tryz.f5.params[j]? = some t → args[j]? = some v → Value.okWide Tryz.prog W .any base t v)
    (hW : DataW.Whole enc Tryz.prog Tryz.f5.params.toList Rows.vfsNoneSpec.vars false W args.toList ds gs before) (hT : Lib.Utf8Tabs (laysValid_ren.g 3) (laysValid_ren.g 4) W) :
    Calls Tryz.prog 5 args W fun e W' => ∃ v, e = .returned v ∧ Rows.vfsNoneSpec.post enc Tryz.prog Tryz.f5 false true false false W args v W' := by
  exact contract_runB mixed (known hT) few runs out pars rfl rfl Tryz.underlying4 (fun ds hd => by
    have hd' : ds.length = 3 := hd
    match ds, hd' with
    | [_, _, _], _ => exact ⟨rfl, rfl, rfl⟩) hval hW

/-- a witness: zeros, and the tables as they are laid -/
noncomputable def zeros : Array Value := Tryz.f5.params.map fun t => ((Tryz.prog.info? t).bind (·.zero)).getD undef
noncomputable def laidWorld (os : Os) : World :=
  let w0 := World.holding Tryz.prog os ⟨#[], #[], []⟩
  let put (h : Array Obj) (g : Nat) (cs : Array Value) : Array Obj := h.modify g fun
    | .cells _ t frozen => .cells cs t frozen
    | o => o
  let h0 := put w0.heap 4 (([0, 1, 28, 2, 29, 14, 24, 3, 30, 22, 20, 15, 25, 17, 4, 8, 31, 27, 13, 23, 21, 19, 16, 7, 26, 12, 18, 6, 11, 5, 10, 9] : List Int).map fun z => Value.int .u8 z).toArray
  let h1 := put h0 5 (([0, 1, 56, 2, 57, 49, 28, 3, 61, 58, 42, 50, 38, 29, 17, 4, 62, 47, 59, 36, 45, 43, 51, 22, 53, 39, 33, 30, 24, 18, 12, 5, 63, 55, 48, 27, 60, 41, 37, 16, 46, 35, 44, 21, 52, 32, 23, 11, 54, 26, 40, 15, 34, 20, 31, 10, 25, 14, 19, 9, 13, 8, 7, 6] : List Int).map fun z => Value.int .u8 z).toArray
  let h2 := put h1 3 (([1, 10, 100, 1000, 10000, 100000, 1000000, 10000000, 100000000, 1000000000, 10000000000, 100000000000, 1000000000000, 10000000000000, 100000000000000, 1000000000000000, 10000000000000000, 100000000000000000, 1000000000000000000, 10000000000000000000] : List Int).map fun z => Value.int .u64 z).toArray
  let h3 := put h2 1 (([128, 191, 160, 191, 128, 159, 144, 191, 128, 143, 0, 0, 0, 0, 0, 0, 0, 0, 0, 0, 0, 0, 0, 0, 0, 0, 0, 0, 0, 0, 0, 0] : List Int).map fun z => Value.int .u8 z).toArray
  let h4 := put h3 0 (Pinned.utf8FirstZ.map fun (z : Nat) => Value.int .u8 z).toArray
  { w0 with heap := h4 }
theorem laid_met (os : Os) (args : Array Value) : laidMet Tryz.prog Rows.vfsNoneRow.laid ((laidWorld os).forCall (fun _ _ => 0) ⟨#[], args, []⟩).memory :=
  (LaidIn.of_run (l := Rows.vfsNoneRow.laid) [4, 5, 3, 1, 0] 8 (by kernel_rfl) (by kernel_rfl) (by kernel_rfl) (by kernel_rfl)).met
theorem reads (os : Os) {H : Type} (enc : TypeId × Value → H) : (DataW.whole enc Tryz.prog ((laidWorld os).forCall (fun _ _ => 0) ⟨#[], zeros, []⟩).memory Tryz.f5.params.toList Rows.vfsNoneSpec.vars false zeros.toList 8).isSome = true := by kernel_rfl

set_option maxRecDepth 100000 in
theorem lifted (os : Os) (started : os.Started) (H : Type) (enc : TypeId × Value → H) (F : Stop.Interp) :
    ReturnsInHanded {} Tryz.checked os 5 .any ((OpenSpec.ofChange Rows.vfsNoneSpec).preRow enc Tryz.prog Tryz.f5 Rows.vfsNoneRow.domain false Rows.vfsNoneRow.laid) (((OpenSpec.ofChange Rows.vfsNoneSpec).at F).post enc Tryz.prog Tryz.f5 false true false false) := by
  obtain ⟨x, hx⟩ := Option.isSome_iff_exists.1 (reads os enc)
  refine returnsInHanded_of_row (C := Tryz.checked) (s := OpenSpec.ofChange Rows.vfsNoneSpec) own started (by kernel_rfl) Tryz.func5
    (witness_row_at (enc := enc) (C := Tryz.checked) false (laidWorld os) zeros rfl (by kernel_rfl) (by kernel_rfl) (by kernel_rfl)
      (OpenSpec.preRow_of_cond 8 hx rfl (fun k hk => by cases hk) (by kernel_rfl) (laid_met os _))) ?_
  intro W base args ds gs before hval hW _ _ _ hL _ _
  exact contract H enc W base args ds gs before hval hW (tabs_of hL)

theorem said : Rows.VfsNoneSaid :=
  OpenClaim.holds_of_cond 5 Tryz.f5 rfl rfl rfl rfl rfl rfl rfl ⟨rfl, rfl, rfl, rfl, rfl⟩ rfl rfl rfl rfl rfl (by kernel_rfl) Tryz.func5 (by kernel_rfl)
    (of_decide_eq_true (by kernel_rfl)) (by unfold Func.isWrapper; first | (rw [if_pos (by decide +kernel)]; kernel_rfl) | (rw [if_neg (by decide +kernel)]; exact ⟨rfl, rfl⟩))
    (fun os started H enc _ F => by rw [OpenClaim.pre_eq_preRow]; exact lifted os started H enc F)

theorem plain (f : FuncId) (fn : Func) (hf : Tryz.pinned.checked.prog.funcNamed "hornbeam/hornbeamlaw08.VfsNone" = some f) (hfn : Tryz.pinned.checked.prog.funcs[f]? = some fn) :
    true = Tryz.pinned.checked.prog.looks [] ∧ ∀ (j : Nat) t, fn.params[j]? = some t → Tryz.pinned.checked.prog.wantsStandIn t = false := by
  obtain rfl : f = 5 := Option.some.inj ((show Tryz.prog.funcNamed "hornbeam/hornbeamlaw08.VfsNone" = some 5 by kernel_rfl).symm.trans hf) |>.symm
  obtain rfl : fn = Tryz.f5 := (Option.some.inj (Tryz.func5.symm.trans hfn)).symm
  refine ⟨by kernel_rfl, fun j t ht => ?_⟩
  have hall : (Tryz.f5.params.toList.all fun t => !Tryz.prog.wantsStandIn t) = true := by kernel_rfl
  have := List.all_eq_true.1 hall t (List.mem_of_getElem? (i := j) (by rw [Array.getElem?_toList]; exact ht))
  exact (show Tryz.prog.wantsStandIn t = false by simpa using this)

theorem card : Rows.VfsNoneCardSaid :=
  Claim7.holds_tied_plain_at .later [] _ _ _ _ said (fun _ h => by cases h) (by kernel_rfl) (fun _ h => by cases h) vfsNone_row_tie rfl ⟨rfl, rfl⟩ (by kernel_rfl) rfl plain (by kernel_rfl)
end Go.Proofs.YtlmjnikipfbenaaGreatDoor.vfsNone
