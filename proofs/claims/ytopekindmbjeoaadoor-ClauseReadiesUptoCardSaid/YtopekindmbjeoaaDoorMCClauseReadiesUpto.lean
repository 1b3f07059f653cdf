import Derived.Test.YtopekindmbjeoaaDoorM8
import Derived.Test.YtopekindmbjeoaaDoorM9
import Derived.Test.YtopekindmbjeoaaDoorCards
import Derived.Test.YtopekindmbjeoaaDoorTie
import Derived.WalkKit
import Derived.ProofKit
import Derived.OpenShut
import Derived.Deep.DeepHandedRow
import Derived.Lib.LaidIn
/- 'hornbeam/hornbeamlaw11.ClauseReadies': the card, out of the run over the whole world. -/
namespace Go.Proofs.YtopekindmbjeoaaDoor.clauseReadiesUpto
open Go.ChangeShapes Go.WideShapes Go.ChangeAt Go.RowKit Go.Hb Go.Proofs.hq Go.Lib Go.Shelf

theorem own : ownKnob Tryd.prog.godebug = none := by kernel_rfl
theorem out : laidOutB Tryd.prog = true := by kernel_rfl
theorem pars : Tryd.f3.params.toList.all (fun t => Tryd.prog.readableRec t && decide (t < Tryd.prog.types.size)) = true := by kernel_rfl

theorem z4t {H : Type} : ∀ ps : List (DataW H), Rows.uptoBulkAll ps = (ps.map Rows.uptoBulk).sum
  | [] => by rw [Rows.uptoBulkAll]; rfl
  | d :: r => by rw [Rows.uptoBulkAll, z4t r, List.map_cons, List.sum_cons]
theorem wt {H : Type} : Wt (Rows.uptoBulk (H := H)) := by
  refine ⟨fun d => ?_, fun ps => ?_, fun es rest => ?_⟩
  · cases d with
    | lit l => cases l <;> simp [Rows.uptoBulk]
    | _ => simp [Rows.uptoBulk]
  · rw [Rows.uptoBulk, z4t]; exact Nat.le_refl _
  · rw [Rows.uptoBulk, z4t es]; omega
theorem zn7 {W : World} (hL : laidMetH Tryd.prog Rows.clauseReadiesUptoRow.laid W) : Lib.Utf8Tabs (laysValid_ren.g 3) (laysValid_ren.g 4) W := by
  have e1 : Rows.laid_unicode_utf8_first = firstData := by kernel_rfl
  have e2 : Rows.laid_unicode_utf8_acceptRanges = acceptData := by kernel_rfl
  refine utf8Tabs_of_readsT (U8Types.of196 laysValid) ⟨by kernel_rfl, by kernel_rfl, by kernel_rfl, by kernel_rfl, by kernel_rfl, by kernel_rfl, by kernel_rfl⟩ (e1 ▸ Lib.laidMet.reads hL (.tail _ (.head _))) (e2 ▸ Lib.laidMet.reads hL (.head _))
theorem zit : TermTypes Tryd.prog 25 23 3 9 22 := ⟨⟨_, Tryd.underlying25, rfl⟩, Tryd.underlying23, Tryd.underlying3, Tryd.underlying9, Tryd.underlying22, by kernel_rfl, by kernel_rfl, by kernel_rfl, by kernel_rfl, by kernel_rfl⟩

set_option maxRecDepth 100000 in
theorem zkf (H : Type) (enc : TypeId × Value → H) (W : World) (base : Nat) (args : Array Value) (ds gs : List (DataW H)) (before : List MemPlace)
    (hval : ∀ (j : Nat) t v, Tryd.f3.params[j]? = some t → args[j]? = some v → Value.okWide Tryd.prog W .any base t v)
    (hW : DataW.Whole enc Tryd.prog Tryd.f3.params.toList Rows.clauseReadiesSpec.vars false W args.toList ds gs before) (hk : Rows.uptoSmall H (ds ++ gs) = true) (hT : Lib.Utf8Tabs (laysValid_ren.g 3) (laysValid_ren.g 4) W) :
    Calls Tryd.prog 3 args W fun e W' => ∃ v, e = .returned v ∧ Rows.clauseReadiesSpec.post enc Tryd.prog Tryd.f3 false true false false W args v W' := by
  refine zcf out pars rfl rfl Tryd.underlying4 (fun ds hd => by
    have hd' : ds.length = 1 := hd
    match ds, hd' with
    | [_], _ => exact ⟨rfl, rfl, rfl⟩) hW (zh0 (mask := 2 ^ 135 - 1) (fa := 5) (fv := 75) zlm zln zg0 (fun s w hs hB => zg1 hT rfl s w hs hB) ?_)
  obtain ⟨p, q, hA, _⟩ := hW
  obtain ⟨v, d, rfl, rfl, fuel, ht⟩ := trodAll_one hA
  have hv := hval 0 25 v rfl rfl
  unfold Value.okWide at hv
  rw [Tryd.underlying25] at hv
  obtain ⟨cs, rfl, -⟩ := hv
  obtain ⟨t, hr, hw1⟩ := zoy zit wt _ _ _ _ ht
  obtain ⟨cs⟩ := cs
  have h2 : Rows.uptoBulkAll ([d] ++ gs) ≤ 1048576 := of_decide_eq_true hk
  have h3 : Rows.uptoBulkAll ([d] ++ gs) = Rows.uptoBulk d + Rows.uptoBulkAll gs := by rw [List.singleton_append, Rows.uptoBulkAll]
  exact z69 hr (zll _ _ (Nat.lt_succ_self _) (by omega)) zj7

/-- a witness: zeros, and the tables as they are laid -/
noncomputable def zeros : Array Value := Tryd.f3.params.map fun t => ((Tryd.prog.info? t).bind (·.zero)).getD undef
noncomputable def laidWorld (os : Os) : World :=
  let w0 := World.holding Tryd.prog os ⟨#[], #[], []⟩
  let put (h : Array Obj) (g : Nat) (cs : Array Value) : Array Obj := h.modify g fun
    | .cells _ t frozen => .cells cs t frozen
    | o => o
  let h0 := put w0.heap 1 (([128, 191, 160, 191, 128, 159, 144, 191, 128, 143, 0, 0, 0, 0, 0, 0, 0, 0, 0, 0, 0, 0, 0, 0, 0, 0, 0, 0, 0, 0, 0, 0] : List Int).map fun z => Value.int .u8 z).toArray
  let h1 := put h0 0 (Pinned.utf8FirstZ.map fun (z : Nat) => Value.int .u8 z).toArray
  { w0 with heap := h1 }
theorem zkg (os : Os) (args : Array Value) : laidMet Tryd.prog Rows.clauseReadiesUptoRow.laid ((laidWorld os).forCall (fun _ _ => 0) ⟨#[], args, []⟩).memory :=
  (LaidIn.of_run (l := Rows.clauseReadiesUptoRow.laid) [1, 0] 8 (by kernel_rfl) (by kernel_rfl) (by kernel_rfl) (by kernel_rfl)).met
theorem reads (os : Os) {H : Type} (enc : TypeId × Value → H) : (DataW.whole enc Tryd.prog ((laidWorld os).forCall (fun _ _ => 0) ⟨#[], zeros, []⟩).memory Tryd.f3.params.toList Rows.clauseReadiesSpec.vars false zeros.toList 8).isSome = true := by kernel_rfl
theorem zoz (os : Os) {H : Type} (enc : TypeId × Value → H) : (DataW.whole enc Tryd.prog ((laidWorld os).forCall (fun _ _ => 0) ⟨#[], zeros, []⟩).memory Tryd.f3.params.toList Rows.clauseReadiesSpec.vars false zeros.toList 8).map (fun x => Rows.uptoSmall H (x.1 ++ x.2.1)) = some true := by kernel_rfl

set_option maxRecDepth 100000 in
theorem zoh (os : Os) (started : os.Started) (H : Type) (enc : TypeId × Value → H) (F : Stop.Interp) :
    ReturnsInHanded {} Tryd.checked os 3 .any ((Rows.OpenSpec.upto Rows.clauseReadiesSpec).preRow enc Tryd.prog Tryd.f3 Rows.clauseReadiesUptoRow.domain false Rows.clauseReadiesUptoRow.laid) (((Rows.OpenSpec.upto Rows.clauseReadiesSpec).at F).post enc Tryd.prog Tryd.f3 false true false false) := by
  obtain ⟨x, hx⟩ := Option.isSome_iff_exists.1 (reads os enc)
  have hsm : Rows.uptoSmall H (x.1 ++ x.2.1) = true := by
    have h := zoz os enc
    rw [hx] at h
    exact Option.some.inj h
  refine returnsInHanded_of_row (C := Tryd.checked) (s := Rows.OpenSpec.upto Rows.clauseReadiesSpec) own started (by kernel_rfl) Tryd.func3
    (witness_row_at (enc := enc) (C := Tryd.checked) false (laidWorld os) zeros rfl (by kernel_rfl) (by kernel_rfl) (by kernel_rfl)
      (OpenSpec.preRow_of_cond 8 hx rfl (fun k hk => by
        obtain rfl : Rows.uptoSmall = k := Option.some.inj hk
        exact hsm) (by kernel_rfl) (zkg os _))) ?_
  intro W base args ds gs before hval hW _ hk _ hL _ _
  exact zkf H enc W base args ds gs before hval hW (hk _ rfl) (zn7 hL)

theorem said : Rows.ClauseReadiesUptoSaid :=
  OpenClaim.holds_of_cond 3 Tryd.f3 rfl rfl rfl rfl rfl rfl rfl ⟨rfl, rfl, rfl, rfl, rfl⟩ rfl rfl rfl rfl rfl (by kernel_rfl) Tryd.func3 (by kernel_rfl)
    (of_decide_eq_true (by kernel_rfl)) (by unfold Func.isWrapper; first | (rw [if_pos (by decide +kernel)]; kernel_rfl) | (rw [if_neg (by decide +kernel)]; exact ⟨rfl, rfl⟩))
    (fun os started H enc _ F => by rw [OpenClaim.pre_eq_preRow]; exact zoh os started H enc F)

theorem plain (f : FuncId) (fn : Func) (hf : Tryd.pinned.checked.prog.funcNamed "hornbeam/hornbeamlaw11.ClauseReadies" = some f) (hfn : Tryd.pinned.checked.prog.funcs[f]? = some fn) :
    true = Tryd.pinned.checked.prog.looks [] ∧ ∀ (j : Nat) t, fn.params[j]? = some t → Tryd.pinned.checked.prog.wantsStandIn t = false := by
  obtain rfl : f = 3 := Option.some.inj ((show Tryd.prog.funcNamed "hornbeam/hornbeamlaw11.ClauseReadies" = some 3 by kernel_rfl).symm.trans hf) |>.symm
  obtain rfl : fn = Tryd.f3 := (Option.some.inj (Tryd.func3.symm.trans hfn)).symm
  refine ⟨by kernel_rfl, fun j t ht => ?_⟩
  have hall : (Tryd.f3.params.toList.all fun t => !Tryd.prog.wantsStandIn t) = true := by kernel_rfl
  have := List.all_eq_true.1 hall t (List.mem_of_getElem? (i := j) (by rw [Array.getElem?_toList]; exact ht))
  exact (show Tryd.prog.wantsStandIn t = false by simpa using this)

theorem card : Rows.ClauseReadiesUptoCardSaid :=
  Claim7.holds_tied_plain_at .later [] _ _ _ _ said (fun _ h => by cases h) (by kernel_rfl) (fun _ h => by cases h) clauseReadiesUpto_row_tie rfl ⟨rfl, rfl⟩ (by kernel_rfl) rfl plain (by kernel_rfl)
end Go.Proofs.YtopekindmbjeoaaDoor.clauseReadiesUpto
