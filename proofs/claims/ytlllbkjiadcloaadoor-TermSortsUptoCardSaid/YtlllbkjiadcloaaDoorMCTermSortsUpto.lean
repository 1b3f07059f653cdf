import Derived.Test.YtlllbkjiadcloaaDoorM7
import Derived.Test.YtlllbkjiadcloaaDoorM9
import Derived.Test.YtlllbkjiadcloaaDoorM8
import Derived.Test.YtlllbkjiadcloaaDoorCards
import Derived.Test.YtlllbkjiadcloaaDoorTie
import Derived.WalkKit
import Derived.ProofKit
import Derived.OpenShut
import Derived.Deep.DeepHandedRow
import Derived.Lib.LaidIn
/- 'hornbeam/hornbeamlaw02.TermSorts': the card, out of the run over the whole world. -/
namespace Go.Proofs.YtlllbkjiadcloaaDoor.termSortsUpto
open Go.ChangeShapes Go.WideShapes Go.ChangeAt Go.RowKit Go.Hb Go.Proofs.YtlllbkjiadcloaaDoor.hb Go.Lib Go.Shelf

theorem own : ownKnob Tryd.prog.godebug = none := by kernel_rfl
theorem out : laidOutB Tryd.prog = true := by kernel_rfl
theorem pars : Tryd.f10.params.toList.all (fun t => Tryd.prog.readableRec t && decide (t < Tryd.prog.types.size)) = true := by kernel_rfl

theorem z4f {H : Type} : ∀ ps : List (DataW H), Rows.uptoBulkAll ps = (ps.map Rows.uptoBulk).sum
  | [] => by rw [Rows.uptoBulkAll]; rfl
  | d :: r => by rw [Rows.uptoBulkAll, z4f r, List.map_cons, List.sum_cons]
theorem wt {H : Type} : Wt (Rows.uptoBulk (H := H)) := by
  refine ⟨fun d => ?_, fun ps => ?_, fun es rest => ?_⟩
  · cases d with
    | lit l => cases l <;> simp [Rows.uptoBulk]
    | _ => simp [Rows.uptoBulk]
  · rw [Rows.uptoBulk, z4f]; exact Nat.le_refl _
  · rw [Rows.uptoBulk, z4f es]; omega
theorem zmn {W : World} (hL : laidMetH Tryd.prog Rows.termSortsUptoRow.laid W) : Lib.Utf8Tabs (laysValid_ren.g 3) (laysValid_ren.g 4) W := by
  have e1 : Rows.laid_unicode_utf8_first = firstData := by kernel_rfl
  have e2 : Rows.laid_unicode_utf8_acceptRanges = acceptData := by kernel_rfl
  refine utf8Tabs_of_readsT (U8Types.of196 laysValid) ⟨by kernel_rfl, by kernel_rfl, by kernel_rfl, by kernel_rfl, by kernel_rfl, by kernel_rfl, by kernel_rfl⟩ (e1 ▸ Lib.laidMet.reads hL (.tail _ (.head _))) (e2 ▸ Lib.laidMet.reads hL (.head _))
theorem zi6 : TermTypes Tryd.prog 26 24 3 9 23 := ⟨⟨_, Tryd.underlying26, rfl⟩, Tryd.underlying24, Tryd.underlying3, Tryd.underlying9, Tryd.underlying23, by kernel_rfl, by kernel_rfl, by kernel_rfl, by kernel_rfl, by kernel_rfl⟩

set_option maxRecDepth 100000 in
theorem zjw (H : Type) (enc : TypeId × Value → H) (W : World) (base : Nat) (args : Array Value) (ds gs : List (DataW H)) (before : List MemPlace)
    (hval : ∀ (j : Nat) t v, Tryd.f10.params[j]? = some t → args[j]? = some v → Value.okWide Tryd.prog W .any base t v)
    (hW : DataW.Whole enc Tryd.prog Tryd.f10.params.toList Rows.termSortsSpec.vars false W args.toList ds gs before) (hk : Rows.uptoSmall H (ds ++ gs) = true) (hT : Lib.Utf8Tabs (laysValid_ren.g 3) (laysValid_ren.g 4) W) :
    Calls Tryd.prog 10 args W fun e W' => ∃ v, e = .returned v ∧ Rows.termSortsSpec.post enc Tryd.prog Tryd.f10 false true false false W args v W' := by
  refine zby out pars rfl rfl Tryd.underlying4 (fun ds hd => by
    have hd' : ds.length = 2 := hd
    match ds, hd' with
    | [_, _], _ => exact ⟨rfl, rfl, rfl⟩) hW (zgh (mask := 2 ^ 182 - 1) (fa := 12) (fv := 101) zl7 zl8 zfh (fun s w hs hB => zfi hT rfl s w hs hB) ?_)
  obtain ⟨p, q, hA, _⟩ := hW
  obtain ⟨v, v', d, d', p1, p2, rfl, rfl, rfl, ⟨fuel, ht⟩, -⟩ := trodAll_two hA
  have hv := hval 0 24 v rfl rfl
  obtain ⟨l, a, c, cells, he, hr, hb, hro⟩ := zco zi6 wt ht (fun cs e => by
    subst e
    unfold Value.okWide at hv
    rw [Tryd.underlying24] at hv
    simp [Cell.okWide, Cell.ok, Tryd.underlying24] at hv)
  have hv' := hval 1 4 v' rfl rfl
  have hbo : ∃ b, v' = .bool b := by
    unfold Value.okWide at hv'
    rw [Tryd.underlying4] at hv'
    cases v' <;> simp [Cell.okWide, Cell.ok, Tryd.underlying4] at hv' ⊢
  obtain ⟨once, rfl⟩ := hbo
  have h2 : Rows.uptoBulkAll ([d, d'] ++ gs) ≤ 1048576 := of_decide_eq_true hk
  have h3 : Rows.uptoBulkAll ([d, d'] ++ gs) = Rows.uptoBulk d + Rows.uptoBulkAll ([d'] ++ gs) := by rw [List.cons_append, Rows.uptoBulkAll]
  have h4 := zi4 l
  have hbb : abV Tryd.prog W (.bool once) = .bool once := rfl
  simp only [List.map_cons, List.map_nil, he, hbb]
  exact zbj hr (by omega) zij

/-- a witness: zeros, and the tables as they are laid -/
noncomputable def zeros : Array Value := Tryd.f10.params.map fun t => ((Tryd.prog.info? t).bind (·.zero)).getD undef
noncomputable def laidWorld (os : Os) : World :=
  let w0 := World.holding Tryd.prog os ⟨#[], #[], []⟩
  let put (h : Array Obj) (g : Nat) (cs : Array Value) : Array Obj := h.modify g fun
    | .cells _ t frozen => .cells cs t frozen
    | o => o
  let h0 := put w0.heap 2 (([128, 191, 160, 191, 128, 159, 144, 191, 128, 143, 0, 0, 0, 0, 0, 0, 0, 0, 0, 0, 0, 0, 0, 0, 0, 0, 0, 0, 0, 0, 0, 0] : List Int).map fun z => Value.int .u8 z).toArray
  let h1 := put h0 1 (Pinned.utf8FirstZ.map fun (z : Nat) => Value.int .u8 z).toArray
  { w0 with heap := h1 }
theorem zjx (os : Os) (args : Array Value) : laidMet Tryd.prog Rows.termSortsUptoRow.laid ((laidWorld os).forCall (fun _ _ => 0) ⟨#[], args, []⟩).memory :=
  (LaidIn.of_run (l := Rows.termSortsUptoRow.laid) [2, 1] 8 (by kernel_rfl) (by kernel_rfl) (by kernel_rfl) (by kernel_rfl)).met
theorem reads (os : Os) {H : Type} (enc : TypeId × Value → H) : (DataW.whole enc Tryd.prog ((laidWorld os).forCall (fun _ _ => 0) ⟨#[], zeros, []⟩).memory Tryd.f10.params.toList Rows.termSortsSpec.vars false zeros.toList 8).isSome = true := by kernel_rfl
theorem zoj (os : Os) {H : Type} (enc : TypeId × Value → H) : (DataW.whole enc Tryd.prog ((laidWorld os).forCall (fun _ _ => 0) ⟨#[], zeros, []⟩).memory Tryd.f10.params.toList Rows.termSortsSpec.vars false zeros.toList 8).map (fun x => Rows.uptoSmall H (x.1 ++ x.2.1)) = some true := by kernel_rfl

set_option maxRecDepth 100000 in
theorem znt (os : Os) (started : os.Started) (H : Type) (enc : TypeId × Value → H) (F : Stop.Interp) :
    ReturnsInHanded {} Tryd.checked os 10 .any ((Rows.OpenSpec.upto Rows.termSortsSpec).preRow enc Tryd.prog Tryd.f10 Rows.termSortsUptoRow.domain false Rows.termSortsUptoRow.laid) (((Rows.OpenSpec.upto Rows.termSortsSpec).at F).post enc Tryd.prog Tryd.f10 false true false false) := by
  obtain ⟨x, hx⟩ := Option.isSome_iff_exists.1 (reads os enc)
  have hsm : Rows.uptoSmall H (x.1 ++ x.2.1) = true := by
    have h := zoj os enc
    rw [hx] at h
    exact Option.some.inj h
  refine returnsInHanded_of_row (C := Tryd.checked) (s := Rows.OpenSpec.upto Rows.termSortsSpec) own started (by kernel_rfl) Tryd.func10
    (witness_row_at (enc := enc) (C := Tryd.checked) false (laidWorld os) zeros rfl (by kernel_rfl) (by kernel_rfl) (by kernel_rfl)
      (OpenSpec.preRow_of_cond 8 hx rfl (fun k hk => by
        obtain rfl : Rows.uptoSmall = k := Option.some.inj hk
        exact hsm) (by kernel_rfl) (zjx os _))) ?_
  intro W base args ds gs before hval hW _ hk _ hL _ _
  exact zjw H enc W base args ds gs before hval hW (hk _ rfl) (zmn hL)

theorem said : Rows.TermSortsUptoSaid :=
  OpenClaim.holds_of_cond 10 Tryd.f10 rfl rfl rfl rfl rfl rfl rfl ⟨rfl, rfl, rfl, rfl, rfl⟩ rfl rfl rfl rfl rfl (by kernel_rfl) Tryd.func10 (by kernel_rfl)
    (of_decide_eq_true (by kernel_rfl)) (by unfold Func.isWrapper; first | (rw [if_pos (by decide +kernel)]; kernel_rfl) | (rw [if_neg (by decide +kernel)]; exact ⟨rfl, rfl⟩))
    (fun os started H enc _ F => by rw [OpenClaim.pre_eq_preRow]; exact znt os started H enc F)

theorem plain (f : FuncId) (fn : Func) (hf : Tryd.pinned.checked.prog.funcNamed "hornbeam/hornbeamlaw02.TermSorts" = some f) (hfn : Tryd.pinned.checked.prog.funcs[f]? = some fn) :
    false = Tryd.pinned.checked.prog.looks [] ∧ ∀ (j : Nat) t, fn.params[j]? = some t → Tryd.pinned.checked.prog.wantsStandIn t = false := by
  obtain rfl : f = 10 := Option.some.inj ((show Tryd.prog.funcNamed "hornbeam/hornbeamlaw02.TermSorts" = some 10 by kernel_rfl).symm.trans hf) |>.symm
  obtain rfl : fn = Tryd.f10 := (Option.some.inj (Tryd.func10.symm.trans hfn)).symm
  refine ⟨by kernel_rfl, fun j t ht => ?_⟩
  have hall : (Tryd.f10.params.toList.all fun t => !Tryd.prog.wantsStandIn t) = true := by kernel_rfl
  have := List.all_eq_true.1 hall t (List.mem_of_getElem? (i := j) (by rw [Array.getElem?_toList]; exact ht))
  exact (show Tryd.prog.wantsStandIn t = false by simpa using this)

theorem card : Rows.TermSortsUptoCardSaid :=
  Claim7.holds_tied_plain_at .later [] _ _ _ _ said (fun _ h => by cases h) (by kernel_rfl) (fun _ h => by cases h) termSortsUpto_row_tie rfl ⟨rfl, rfl⟩ (by kernel_rfl) rfl plain (by kernel_rfl)
end Go.Proofs.YtlllbkjiadcloaaDoor.termSortsUpto
