import Derived.Test.YthkogijbkachdaaDoorM7
import Derived.Test.YthkogijbkachdaaDoorM8
import Derived.Test.YthkogijbkachdaaDoorCards
import Derived.Test.YthkogijbkachdaaDoorTie
import Derived.WalkKit
import Derived.ProofKit
import Derived.OpenShut
import Derived.Deep.DeepHandedRow
import Derived.Lib.LaidIn
/- 'hornbeam/hornbeamlaw13.StoreMarks': the card, out of the run over the whole world. -/
namespace Go.Proofs.YthkogijbkachdaaDoor.storeMarksUpto
open Go.ChangeShapes Go.WideShapes Go.ChangeAt Go.RowKit Go.Hb Go.Proofs.YthkogijbkachdaaDoor.hb Go.Lib Go.Shelf

theorem own : ownKnob Tryd.prog.godebug = none := by kernel_rfl
theorem out : laidOutB Tryd.prog = true := by kernel_rfl
theorem pars : Tryd.f3.params.toList.all (fun t => Tryd.prog.readableRec t && decide (t < Tryd.prog.types.size)) = true := by kernel_rfl

theorem z45 {H : Type} : ∀ ps : List (DataW H), Rows.uptoBulkAll ps = (ps.map Rows.uptoBulk).sum
  | [] => by rw [Rows.uptoBulkAll]; rfl
  | d :: r => by rw [Rows.uptoBulkAll, z45 r, List.map_cons, List.sum_cons]
theorem wt {H : Type} : Wt (Rows.uptoBulk (H := H)) := by
  refine ⟨fun d => ?_, fun ps => ?_, fun es rest => ?_⟩
  · cases d with
    | lit l => cases l <;> simp [Rows.uptoBulk]
    | _ => simp [Rows.uptoBulk]
  · rw [Rows.uptoBulk, z45]; exact Nat.le_refl _
  · rw [Rows.uptoBulk, z45 es]; omega
theorem zll {W : World} (hL : laidMetH Tryd.prog Rows.storeMarksUptoRow.laid W) : Lib.Utf8Tabs (laysValid_ren.g 3) (laysValid_ren.g 4) W := by
  have e1 : Rows.laid_unicode_utf8_first = firstData := by kernel_rfl
  have e2 : Rows.laid_unicode_utf8_acceptRanges = acceptData := by kernel_rfl
  refine utf8Tabs_of_readsT (U8Types.of196 laysValid) ⟨by kernel_rfl, by kernel_rfl, by kernel_rfl, by kernel_rfl, by kernel_rfl, by kernel_rfl, by kernel_rfl⟩ (e1 ▸ Lib.laidMet.reads hL (.tail _ (.head _))) (e2 ▸ Lib.laidMet.reads hL (.head _))
theorem zao : TermTypes Tryd.prog 32 22 3 9 30 := ⟨⟨_, Tryd.underlying32, rfl⟩, Tryd.underlying22, Tryd.underlying3, Tryd.underlying9, Tryd.underlying30, by kernel_rfl, by kernel_rfl, by kernel_rfl, by kernel_rfl, by kernel_rfl⟩
theorem zer : BindTypesW Tryd.prog 41 23 32 3 := ⟨⟨_, Tryd.underlying41, rfl⟩, Tryd.underlying23, by kernel_rfl⟩

set_option maxRecDepth 100000 in
theorem ziw (H : Type) (enc : TypeId × Value → H) (W : World) (base : Nat) (args : Array Value) (ds gs : List (DataW H)) (before : List MemPlace)
    (hval : ∀ (j : Nat) t v, Tryd.f3.params[j]? = some t → args[j]? = some v → Value.okWide Tryd.prog W .any base t v)
    (hW : DataW.Whole enc Tryd.prog Tryd.f3.params.toList Rows.storeMarksSpec.vars false W args.toList ds gs before) (hk : Rows.uptoSmall H (ds ++ gs) = true) (hT : Lib.Utf8Tabs (laysValid_ren.g 3) (laysValid_ren.g 4) W) :
    Calls Tryd.prog 3 args W fun e W' => ∃ v, e = .returned v ∧ Rows.storeMarksSpec.post enc Tryd.prog Tryd.f3 false true false false W args v W' := by
  refine zb2 out pars rfl rfl Tryd.underlying4 (fun ds hd => by
    have hd' : ds.length = 4 := hd
    match ds, hd' with
    | [_, _, _, _], _ => exact ⟨rfl, rfl, rfl⟩) hW (zfs (mask := 2 ^ 95 - 1) (fa := 5) (fv := 46) zk6 zk7 zep (fun s w hs hB => zeq hT rfl s w hs hB) ?_)
  obtain ⟨p, q, hA, _⟩ := hW
  obtain ⟨v, vs, d, ds1, p1, q1, hargs, rfl, rfl, ⟨fuel, ht⟩, hrest⟩ := trodAll_cons hA
  obtain ⟨v', vs', d', ds2, p2, q2, rfl, rfl, rfl, ⟨fuel', ht'⟩, hrest⟩ := trodAll_cons hrest
  obtain ⟨v2, vs2, d2, ds3, p3, q3, rfl, rfl, rfl, -, hrest⟩ := trodAll_cons hrest
  obtain ⟨v3, vs3, d3, ds4, p4, q4, rfl, rfl, rfl, -, hrest⟩ := trodAll_cons hrest
  obtain ⟨rfl, rfl, rfl⟩ := trodAll_nil hrest
  obtain rfl : args = #[v, v', v2, v3] := by cases args; simp_all
  have hv := hval 0 22 v rfl rfl
  obtain ⟨l, a, c, cells, he, hr, hb, -⟩ := zbr zao wt ht (fun cs e => by
    subst e
    unfold Value.okWide at hv
    rw [Tryd.underlying22] at hv
    simp [Cell.okWide, Cell.ok, Tryd.underlying22] at hv)
  have hv' := hval 1 23 v' rfl rfl
  obtain ⟨B, a2, c2, he2, hb2, hw2⟩ := zeo zao zer wt ht' (fun cs e => by
    subst e
    unfold Value.okWide at hv'
    rw [Tryd.underlying23] at hv'
    simp [Cell.okWide, Cell.ok, Tryd.underlying23] at hv')
  have hi2 : ∃ n, v2 = .int .i64 n := by
    have h := hval 2 3 v2 rfl rfl
    unfold Value.okWide at h
    rw [Tryd.underlying3] at h
    cases v2 <;> simp [Cell.okWide, Cell.ok, Tryd.underlying3] at h ⊢ <;> simp_all
  have hi3 : ∃ n, v3 = .int .i64 n := by
    have h := hval 3 3 v3 rfl rfl
    unfold Value.okWide at h
    rw [Tryd.underlying3] at h
    cases v3 <;> simp [Cell.okWide, Cell.ok, Tryd.underlying3] at h ⊢ <;> simp_all
  obtain ⟨n2, rfl⟩ := hi2
  obtain ⟨n3, rfl⟩ := hi3
  have h2 : Rows.uptoBulkAll ([d, d', d2, d3] ++ gs) ≤ 1048576 := of_decide_eq_true hk
  have h3 : Rows.uptoBulkAll ([d, d', d2, d3] ++ gs) = Rows.uptoBulk d + (Rows.uptoBulk d' + Rows.uptoBulkAll ([d2, d3] ++ gs)) := by rw [List.cons_append, Rows.uptoBulkAll, List.cons_append, Rows.uptoBulkAll]
  have hb3 : abV Tryd.prog W (.int .i64 n2) = .int .i64 n2 := rfl
  have hb4 : abV Tryd.prog W (.int .i64 n3) = .int .i64 n3 := rfl
  simp only [List.map_cons, List.map_nil, he, he2, hb3, hb4]
  exact z8v hr hb2 zhs (by omega)

/-- a witness: zeros, and the tables as they are laid -/
noncomputable def zeros : Array Value := Tryd.f3.params.map fun t => ((Tryd.prog.info? t).bind (·.zero)).getD undef
noncomputable def laidWorld (os : Os) : World :=
  let w0 := World.holding Tryd.prog os ⟨#[], #[], []⟩
  let put (h : Array Obj) (g : Nat) (cs : Array Value) : Array Obj := h.modify g fun
    | .cells _ t frozen => .cells cs t frozen
    | o => o
  let h0 := put w0.heap 1 (([128, 191, 160, 191, 128, 159, 144, 191, 128, 143, 0, 0, 0, 0, 0, 0, 0, 0, 0, 0, 0, 0, 0, 0, 0, 0, 0, 0, 0, 0, 0, 0] : List Int).map fun z => Value.int .u8 z).toArray
  let h1 := put h0 0 (Pinned.utf8FirstZ.map fun (z : Nat) => Value.int .u8 z).toArray
  { w0 with heap := h1 }
theorem zix (os : Os) (args : Array Value) : laidMet Tryd.prog Rows.storeMarksUptoRow.laid ((laidWorld os).forCall (fun _ _ => 0) ⟨#[], args, []⟩).memory :=
  (LaidIn.of_run (l := Rows.storeMarksUptoRow.laid) [1, 0] 8 (by kernel_rfl) (by kernel_rfl) (by kernel_rfl) (by kernel_rfl)).met
theorem reads (os : Os) {H : Type} (enc : TypeId × Value → H) : (DataW.whole enc Tryd.prog ((laidWorld os).forCall (fun _ _ => 0) ⟨#[], zeros, []⟩).memory Tryd.f3.params.toList Rows.storeMarksSpec.vars false zeros.toList 8).isSome = true := by kernel_rfl
theorem zmz (os : Os) {H : Type} (enc : TypeId × Value → H) : (DataW.whole enc Tryd.prog ((laidWorld os).forCall (fun _ _ => 0) ⟨#[], zeros, []⟩).memory Tryd.f3.params.toList Rows.storeMarksSpec.vars false zeros.toList 8).map (fun x => Rows.uptoSmall H (x.1 ++ x.2.1)) = some true := by kernel_rfl

set_option maxRecDepth 100000 in
theorem zmq (os : Os) (started : os.Started) (H : Type) (enc : TypeId × Value → H) (F : Stop.Interp) :
    ReturnsInHanded {} Tryd.checked os 3 .any ((Rows.OpenSpec.upto Rows.storeMarksSpec).preRow enc Tryd.prog Tryd.f3 Rows.storeMarksUptoRow.domain false Rows.storeMarksUptoRow.laid) (((Rows.OpenSpec.upto Rows.storeMarksSpec).at F).post enc Tryd.prog Tryd.f3 false true false false) := by
  obtain ⟨x, hx⟩ := Option.isSome_iff_exists.1 (reads os enc)
  have hsm : Rows.uptoSmall H (x.1 ++ x.2.1) = true := by
    have h := zmz os enc
    rw [hx] at h
    exact Option.some.inj h
  refine returnsInHanded_of_row (C := Tryd.checked) (s := Rows.OpenSpec.upto Rows.storeMarksSpec) own started (by kernel_rfl) Tryd.func3
    (witness_row_at (enc := enc) (C := Tryd.checked) false (laidWorld os) zeros rfl (by kernel_rfl) (by kernel_rfl) (by kernel_rfl)
      (OpenSpec.preRow_of_cond 8 hx rfl (fun k hk => by
        obtain rfl : Rows.uptoSmall = k := Option.some.inj hk
        exact hsm) (by kernel_rfl) (zix os _))) ?_
  intro W base args ds gs before hval hW _ hk _ hL _ _
  exact ziw H enc W base args ds gs before hval hW (hk _ rfl) (zll hL)

theorem said : Rows.StoreMarksUptoSaid :=
  OpenClaim.holds_of_cond 3 Tryd.f3 rfl rfl rfl rfl rfl rfl rfl ⟨rfl, rfl, rfl, rfl, rfl⟩ rfl rfl rfl rfl rfl (by kernel_rfl) Tryd.func3 (by kernel_rfl)
    (of_decide_eq_true (by kernel_rfl)) (by unfold Func.isWrapper; first | (rw [if_pos (by decide +kernel)]; kernel_rfl) | (rw [if_neg (by decide +kernel)]; exact ⟨rfl, rfl⟩))
    (fun os started H enc _ F => by rw [OpenClaim.pre_eq_preRow]; exact zmq os started H enc F)

theorem plain (f : FuncId) (fn : Func) (hf : Tryd.pinned.checked.prog.funcNamed "hornbeam/hornbeamlaw13.StoreMarks" = some f) (hfn : Tryd.pinned.checked.prog.funcs[f]? = some fn) :
    false = Tryd.pinned.checked.prog.looks [] ∧ ∀ (j : Nat) t, fn.params[j]? = some t → Tryd.pinned.checked.prog.wantsStandIn t = false := by
  obtain rfl : f = 3 := Option.some.inj ((show Tryd.prog.funcNamed "hornbeam/hornbeamlaw13.StoreMarks" = some 3 by kernel_rfl).symm.trans hf) |>.symm
  obtain rfl : fn = Tryd.f3 := (Option.some.inj (Tryd.func3.symm.trans hfn)).symm
  refine ⟨by kernel_rfl, fun j t ht => ?_⟩
  have hall : (Tryd.f3.params.toList.all fun t => !Tryd.prog.wantsStandIn t) = true := by kernel_rfl
  have := List.all_eq_true.1 hall t (List.mem_of_getElem? (i := j) (by rw [Array.getElem?_toList]; exact ht))
  exact (show Tryd.prog.wantsStandIn t = false by simpa using this)

theorem card : Rows.StoreMarksUptoCardSaid :=
  Claim7.holds_tied_plain_at .later [] _ _ _ _ said (fun _ h => by cases h) (by kernel_rfl) (fun _ h => by cases h) storeMarksUpto_row_tie rfl ⟨rfl, rfl⟩ (by kernel_rfl) rfl plain (by kernel_rfl)
end Go.Proofs.YthkogijbkachdaaDoor.storeMarksUpto
