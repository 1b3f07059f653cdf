import Derived.Test.YthkogijbkachdaaDoorM7
import Derived.Test.YthkogijbkachdaaDoorM8
import Derived.Test.YthkogijbkachdaaDoorCards
import Derived.Test.YthkogijbkachdaaDoorTie
import Derived.WalkKit
import Derived.ProofKit
import Derived.OpenShut
import Derived.Deep.DeepHandedRow
import Derived.Lib.LaidIn
/- 'hornbeam/hornbeamlaw13.StoreBack': the card, out of the run over the whole world. -/
namespace Go.Proofs.YthkogijbkachdaaDoor.storeBackUpto
open Go.ChangeShapes Go.WideShapes Go.ChangeAt Go.RowKit Go.Hb Go.Proofs.YthkogijbkachdaaDoor.hb Go.Lib Go.Shelf

theorem own : ownKnob Tryd.prog.godebug = none := by kernel_rfl
theorem out : laidOutB Tryd.prog = true := by kernel_rfl
theorem pars : Tryd.f4.params.toList.all (fun t => Tryd.prog.readableRec t && decide (t < Tryd.prog.types.size)) = true := by kernel_rfl

theorem z4a {H : Type} : ∀ ps : List (DataW H), Rows.uptoBulkAll ps = (ps.map Rows.uptoBulk).sum
  | [] => by rw [Rows.uptoBulkAll]; rfl
  | d :: r => by rw [Rows.uptoBulkAll, z4a r, List.map_cons, List.sum_cons]
theorem wt {H : Type} : Wt (Rows.uptoBulk (H := H)) := by
  refine ⟨fun d => ?_, fun ps => ?_, fun es rest => ?_⟩
  · cases d with
    | lit l => cases l <;> simp [Rows.uptoBulk]
    | _ => simp [Rows.uptoBulk]
  · rw [Rows.uptoBulk, z4a]; exact Nat.le_refl _
  · rw [Rows.uptoBulk, z4a es]; omega
theorem zm1 {W : World} (hL : laidMetH Tryd.prog Rows.storeBackUptoRow.laid W) : Lib.Utf8Tabs (laysValid_ren.g 3) (laysValid_ren.g 4) W := by
  have e1 : Rows.laid_unicode_utf8_first = firstData := by kernel_rfl
  have e2 : Rows.laid_unicode_utf8_acceptRanges = acceptData := by kernel_rfl
  refine utf8Tabs_of_readsT (U8Types.of196 laysValid) ⟨by kernel_rfl, by kernel_rfl, by kernel_rfl, by kernel_rfl, by kernel_rfl, by kernel_rfl, by kernel_rfl⟩ (e1 ▸ Lib.laidMet.reads hL (.tail _ (.head _))) (e2 ▸ Lib.laidMet.reads hL (.head _))
theorem zaz : TermTypes Tryd.prog 32 22 3 9 30 := ⟨⟨_, Tryd.underlying32, rfl⟩, Tryd.underlying22, Tryd.underlying3, Tryd.underlying9, Tryd.underlying30, by kernel_rfl, by kernel_rfl, by kernel_rfl, by kernel_rfl, by kernel_rfl⟩
theorem zjg : OpTypesW Tryd.prog 51 46 32 3 37 := ⟨⟨_, Tryd.underlying51, _, _, _, rfl⟩, Tryd.underlying46, by kernel_rfl, ⟨_, Tryd.underlying37, rfl⟩, by kernel_rfl⟩

set_option maxRecDepth 100000 in
theorem zjh (H : Type) (enc : TypeId × Value → H) (W : World) (base : Nat) (args : Array Value) (ds gs : List (DataW H)) (before : List MemPlace)
    (hval : ∀ (j : Nat) t v, Tryd.f4.params[j]? = some t → args[j]? = some v → Value.okWide Tryd.prog W .any base t v)
    (hW : DataW.Whole enc Tryd.prog Tryd.f4.params.toList Rows.storeBackSpec.vars false W args.toList ds gs before) (hk : Rows.uptoSmall H (ds ++ gs) = true) (hT : Lib.Utf8Tabs (laysValid_ren.g 3) (laysValid_ren.g 4) W) :
    Calls Tryd.prog 4 args W fun e W' => ∃ v, e = .returned v ∧ Rows.storeBackSpec.post enc Tryd.prog Tryd.f4 false true false false W args v W' := by
  refine zbd out pars rfl rfl Tryd.underlying4 (fun ds hd => by
    have hd' : ds.length = 2 := hd
    match ds, hd' with
    | [_, _], _ => exact ⟨rfl, rfl, rfl⟩) hW (zg7 (mask := 2 ^ 95 - 1) (fa := 5) (fv := 46) zkp zkq zf5 (fun s w hs hB => zf6 hT rfl s w hs hB) ?_)
  obtain ⟨p, q, hA, _⟩ := hW
  obtain ⟨v, vs, d, ds1, p1, q1, hargs, rfl, rfl, ⟨fuel, ht⟩, hrest⟩ := trodAll_cons hA
  obtain ⟨v', vs', d', ds2, p2, q2, rfl, rfl, rfl, ⟨fuel', ht'⟩, hrest⟩ := trodAll_cons hrest
  obtain ⟨rfl, rfl, rfl⟩ := trodAll_nil hrest
  obtain rfl : args = #[v, v'] := by cases args; simp_all
  have hv := hval 0 32 v rfl rfl
  unfold Value.okWide at hv
  rw [Tryd.underlying32] at hv
  obtain ⟨cs, rfl, -⟩ := hv
  obtain ⟨t, hr, hw1⟩ := zn4 zaz wt _ _ _ _ ht
  obtain ⟨cs⟩ := cs
  have hv' := hval 1 46 v' rfl rfl
  obtain ⟨B, a2, c2, he2, hb2, hw2⟩ := zje zaz zjg wt ht' (fun cs e => by
    subst e
    unfold Value.okWide at hv'
    rw [Tryd.underlying46] at hv'
    simp [Cell.okWide, Cell.ok, Tryd.underlying46] at hv')
  have h2 : Rows.uptoBulkAll ([d, d'] ++ gs) ≤ 1048576 := of_decide_eq_true hk
  have h3 : Rows.uptoBulkAll ([d, d'] ++ gs) = Rows.uptoBulk d + (Rows.uptoBulk d' + Rows.uptoBulkAll gs) := by rw [List.cons_append, Rows.uptoBulkAll, List.cons_append, Rows.uptoBulkAll, List.nil_append]
  simp only [List.map_cons, List.map_nil, he2]
  exact zay hr hb2 zib (by omega)

/-- a witness: zeros, and the tables as they are laid -/
noncomputable def zeros : Array Value := Tryd.f4.params.map fun t => ((Tryd.prog.info? t).bind (·.zero)).getD undef
noncomputable def laidWorld (os : Os) : World :=
  let w0 := World.holding Tryd.prog os ⟨#[], #[], []⟩
  let put (h : Array Obj) (g : Nat) (cs : Array Value) : Array Obj := h.modify g fun
    | .cells _ t frozen => .cells cs t frozen
    | o => o
  let h0 := put w0.heap 1 (([128, 191, 160, 191, 128, 159, 144, 191, 128, 143, 0, 0, 0, 0, 0, 0, 0, 0, 0, 0, 0, 0, 0, 0, 0, 0, 0, 0, 0, 0, 0, 0] : List Int).map fun z => Value.int .u8 z).toArray
  let h1 := put h0 0 (Pinned.utf8FirstZ.map fun (z : Nat) => Value.int .u8 z).toArray
  { w0 with heap := h1 }
theorem zji (os : Os) (args : Array Value) : laidMet Tryd.prog Rows.storeBackUptoRow.laid ((laidWorld os).forCall (fun _ _ => 0) ⟨#[], args, []⟩).memory :=
  (LaidIn.of_run (l := Rows.storeBackUptoRow.laid) [1, 0] 8 (by kernel_rfl) (by kernel_rfl) (by kernel_rfl) (by kernel_rfl)).met
theorem reads (os : Os) {H : Type} (enc : TypeId × Value → H) : (DataW.whole enc Tryd.prog ((laidWorld os).forCall (fun _ _ => 0) ⟨#[], zeros, []⟩).memory Tryd.f4.params.toList Rows.storeBackSpec.vars false zeros.toList 8).isSome = true := by kernel_rfl
theorem znf (os : Os) {H : Type} (enc : TypeId × Value → H) : (DataW.whole enc Tryd.prog ((laidWorld os).forCall (fun _ _ => 0) ⟨#[], zeros, []⟩).memory Tryd.f4.params.toList Rows.storeBackSpec.vars false zeros.toList 8).map (fun x => Rows.uptoSmall H (x.1 ++ x.2.1)) = some true := by kernel_rfl

set_option maxRecDepth 100000 in
theorem zn5 (os : Os) (started : os.Started) (H : Type) (enc : TypeId × Value → H) (F : Stop.Interp) :
    ReturnsInHanded {} Tryd.checked os 4 .any ((Rows.OpenSpec.upto Rows.storeBackSpec).preRow enc Tryd.prog Tryd.f4 Rows.storeBackUptoRow.domain false Rows.storeBackUptoRow.laid) (((Rows.OpenSpec.upto Rows.storeBackSpec).at F).post enc Tryd.prog Tryd.f4 false true false false) := by
  obtain ⟨x, hx⟩ := Option.isSome_iff_exists.1 (reads os enc)
  have hsm : Rows.uptoSmall H (x.1 ++ x.2.1) = true := by
    have h := znf os enc
    rw [hx] at h
    exact Option.some.inj h
  refine returnsInHanded_of_row (C := Tryd.checked) (s := Rows.OpenSpec.upto Rows.storeBackSpec) own started (by kernel_rfl) Tryd.func4
    (witness_row_at (enc := enc) (C := Tryd.checked) false (laidWorld os) zeros rfl (by kernel_rfl) (by kernel_rfl) (by kernel_rfl)
      (OpenSpec.preRow_of_cond 8 hx rfl (fun k hk => by
        obtain rfl : Rows.uptoSmall = k := Option.some.inj hk
        exact hsm) (by kernel_rfl) (zji os _))) ?_
  intro W base args ds gs before hval hW _ hk _ hL _ _
  exact zjh H enc W base args ds gs before hval hW (hk _ rfl) (zm1 hL)

theorem said : Rows.StoreBackUptoSaid :=
  OpenClaim.holds_of_cond 4 Tryd.f4 rfl rfl rfl rfl rfl rfl rfl ⟨rfl, rfl, rfl, rfl, rfl⟩ rfl rfl rfl rfl rfl (by kernel_rfl) Tryd.func4 (by kernel_rfl)
    (of_decide_eq_true (by kernel_rfl)) (by unfold Func.isWrapper; first | (rw [if_pos (by decide +kernel)]; kernel_rfl) | (rw [if_neg (by decide +kernel)]; exact ⟨rfl, rfl⟩))
    (fun os started H enc _ F => by rw [OpenClaim.pre_eq_preRow]; exact zn5 os started H enc F)

theorem plain (f : FuncId) (fn : Func) (hf : Tryd.pinned.checked.prog.funcNamed "hornbeam/hornbeamlaw13.StoreBack" = some f) (hfn : Tryd.pinned.checked.prog.funcs[f]? = some fn) :
    false = Tryd.pinned.checked.prog.looks [] ∧ ∀ (j : Nat) t, fn.params[j]? = some t → Tryd.pinned.checked.prog.wantsStandIn t = false := by
  obtain rfl : f = 4 := Option.some.inj ((show Tryd.prog.funcNamed "hornbeam/hornbeamlaw13.StoreBack" = some 4 by kernel_rfl).symm.trans hf) |>.symm
  obtain rfl : fn = Tryd.f4 := (Option.some.inj (Tryd.func4.symm.trans hfn)).symm
  refine ⟨by kernel_rfl, fun j t ht => ?_⟩
  have hall : (Tryd.f4.params.toList.all fun t => !Tryd.prog.wantsStandIn t) = true := by kernel_rfl
  have := List.all_eq_true.1 hall t (List.mem_of_getElem? (i := j) (by rw [Array.getElem?_toList]; exact ht))
  exact (show Tryd.prog.wantsStandIn t = false by simpa using this)

theorem card : Rows.StoreBackUptoCardSaid :=
  Claim7.holds_tied_plain_at .later [] _ _ _ _ said (fun _ h => by cases h) (by kernel_rfl) (fun _ h => by cases h) storeBackUpto_row_tie rfl ⟨rfl, rfl⟩ (by kernel_rfl) rfl plain (by kernel_rfl)
end Go.Proofs.YthkogijbkachdaaDoor.storeBackUpto
