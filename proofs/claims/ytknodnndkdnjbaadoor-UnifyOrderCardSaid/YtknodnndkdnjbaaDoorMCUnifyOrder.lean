import Derived.Test.YtknodnndkdnjbaaDoorM6
import Derived.Test.YtknodnndkdnjbaaDoorM7
import Derived.Test.YtknodnndkdnjbaaDoorCards
import Derived.Test.YtknodnndkdnjbaaDoorTie
import Derived.WalkKit
import Derived.ProofKit
import Derived.OpenShut
import Derived.Deep.DeepHandedRow
import Derived.Lib.LaidIn
/- 'hornbeam/hornbeamlaw14.UnifyOrder': the card, out of the run over the whole world. -/
namespace Go.Proofs.YtknodnndkdnjbaaDoor.unifyOrder
open Go.ChangeShapes Go.WideShapes Go.ChangeAt Go.RowKit Go.Hb Go.Proofs.hq Go.Lib Go.Shelf

theorem own:ownKnob Tryd.prog.godebug=none:=by kernel_rfl
theorem out:laidOutB Tryd.prog=true:=by kernel_rfl
theorem pars:Tryd.f3.params.toList.all (fun t=>Tryd.prog.readableRec t && decide (t < Tryd.prog.types.size))=true:=by kernel_rfl

theorem zq9 {W:World}(hL:laidMetH Tryd.prog Rows.unifyOrderRow.laid W):Lib.Utf8Tabs (laysValid_ren.g 3) (laysValid_ren.g 4) W:=by
  have e1:Rows.laid_unicode_utf8_first=firstData:=by kernel_rfl
  have e2:Rows.laid_unicode_utf8_acceptRanges=acceptData:=by kernel_rfl
  refine utf8Tabs_of_readsT (U8Types.of196 laysValid) ⟨by kernel_rfl,by kernel_rfl,by kernel_rfl,by kernel_rfl,by kernel_rfl,by kernel_rfl,by kernel_rfl⟩ (e1 ▸ Lib.laidMet.reads hL (.tail _ (.head _))) (e2 ▸ Lib.laidMet.reads hL (.head _))
theorem zcq:TermTypes Tryd.prog 25 23 3 9 22:=⟨⟨_,Tryd.underlying25,rfl⟩,Tryd.underlying23,Tryd.underlying3,Tryd.underlying9,Tryd.underlying22,by kernel_rfl,by kernel_rfl,by kernel_rfl,by kernel_rfl,by kernel_rfl⟩

set_option maxRecDepth 100000 in
theorem znb (H:Type) (enc:TypeId × Value→H) (W:World) (base:Nat) (args:Array Value) (ds gs:List (DataW H)) (before:List MemPlace)
    (hval:∀(j:Nat) t v,Tryd.f3.params[j]?=some t→args[j]?=some v→Value.okWide Tryd.prog W .any base t v)
    (hW:DataW.Whole enc Tryd.prog Tryd.f3.params.toList Rows.unifyOrderSpec.vars false W args.toList ds gs before) (hT:Lib.Utf8Tabs (laysValid_ren.g 3) (laysValid_ren.g 4) W) :
    Calls Tryd.prog 3 args W fun e W'=>∃v,e=.returned v∧Rows.unifyOrderSpec.post enc Tryd.prog Tryd.f3 false true false false W args v W':=by
  refine zd5 out pars rfl rfl Tryd.underlying4 (fun ds hd=>by
    have hd':ds.length=2:=hd
    match ds,hd' with
    |[_,_],_=>exact⟨rfl,rfl,rfl⟩) hW (zj7 (mask:=2 ^ 129 - 1) (fa:=4) (fv:=80) zoj zok zi4 (fun s w hs hB=>zi5 hT rfl s w hs hB) ?_)
  obtain⟨p,q,hA,_⟩:=hW;obtain⟨v,v',d,d',p1,p2,rfl,rfl,rfl,⟨fuel,ht⟩,⟨fuel',ht'⟩⟩:=trodAll_two hA;have hv:=hval 0 25 v rfl rfl;unfold Value.okWide at hv;rw[Tryd.underlying25] at hv;obtain⟨cs,rfl,-⟩:=hv;obtain⟨t,hr⟩:=z8e zcq fuel _ _ _ ht;have hv':=hval 1 25 v' rfl rfl;unfold Value.okWide at hv';rw[Tryd.underlying25] at hv';obtain⟨cs',rfl,-⟩:=hv';obtain⟨t',hr'⟩:=z8e zcq fuel' _ _ _ ht';obtain⟨cs⟩:=cs;obtain⟨cs'⟩:=cs';exact zae hr hr' zm0

/-- a witness: zeros, and the tables as they are laid -/
noncomputable def zeros:Array Value:=Tryd.f3.params.map fun t=>((Tryd.prog.info? t).bind (·.zero)).getD undef
noncomputable def laidWorld (os:Os):World :=
  let w0:=World.holding Tryd.prog os ⟨#[],#[],[]⟩;let put (h:Array Obj) (g:Nat) (cs:Array Value):Array Obj:=h.modify g fun
    |.cells _ t frozen=>.cells cs t frozen
    |o=>o
  let h0:=put w0.heap 2 (([128,191,160,191,128,159,144,191,128,143,0,0,0,0,0,0,0,0,0,0,0,0,0,0,0,0,0,0,0,0,0,0]:List Int).map fun z=>Value.int .u8 z).toArray;let h1:=put h0 1 (Pinned.utf8FirstZ.map fun (z:Nat)=>Value.int .u8 z).toArray
  { w0 with heap:=h1 }
theorem znc (os:Os) (args:Array Value):laidMet Tryd.prog Rows.unifyOrderRow.laid ((laidWorld os).forCall (fun _ _=>0) ⟨#[],args,[]⟩).memory :=
  (LaidIn.of_run (l:=Rows.unifyOrderRow.laid) [2,1] 8 (by kernel_rfl) (by kernel_rfl) (by kernel_rfl) (by kernel_rfl)).met
theorem reads (os:Os) {H:Type}(enc:TypeId × Value→H):(DataW.whole enc Tryd.prog ((laidWorld os).forCall (fun _ _=>0) ⟨#[],zeros,[]⟩).memory Tryd.f3.params.toList Rows.unifyOrderSpec.vars false zeros.toList 8).isSome=true:=by kernel_rfl

set_option maxRecDepth 100000 in
theorem zrk (os:Os) (started:os.Started) (H:Type) (enc:TypeId × Value→H) (F:Stop.Interp) :
    ReturnsInHanded {} Tryd.checked os 3 .any ((OpenSpec.ofChange Rows.unifyOrderSpec).preRow enc Tryd.prog Tryd.f3 Rows.unifyOrderRow.domain false Rows.unifyOrderRow.laid) (((OpenSpec.ofChange Rows.unifyOrderSpec).at F).post enc Tryd.prog Tryd.f3 false true false false):=by
  obtain⟨x,hx⟩:=Option.isSome_iff_exists.1 (reads os enc);refine returnsInHanded_of_row (C:=Tryd.checked) (s:=OpenSpec.ofChange Rows.unifyOrderSpec) own started (by kernel_rfl) Tryd.func3
    (witness_row_at (enc:=enc) (C:=Tryd.checked) false (laidWorld os) zeros rfl (by kernel_rfl) (by kernel_rfl) (by kernel_rfl)
      (OpenSpec.preRow_of_cond 8 hx rfl (fun k hk=>by cases hk) (by kernel_rfl) (znc os _))) ?_
  intro W base args ds gs before hval hW _ _ _ hL _ _;exact znb H enc W base args ds gs before hval hW (zq9 hL)

theorem said:Rows.UnifyOrderSaid :=
  OpenClaim.holds_of_cond 3 Tryd.f3 rfl rfl rfl rfl rfl rfl rfl ⟨rfl,rfl,rfl,rfl,rfl⟩ rfl rfl rfl rfl rfl (by kernel_rfl) Tryd.func3 (by kernel_rfl)
    (of_decide_eq_true (by kernel_rfl)) (by unfold Func.isWrapper;first|(rw[if_pos (by decide +kernel)];kernel_rfl)|(rw[if_neg (by decide +kernel)];exact⟨rfl,rfl⟩))
    (fun os started H enc _ F=>by rw[OpenClaim.pre_eq_preRow];exact zrk os started H enc F)

theorem plain (f:FuncId) (fn:Func) (hf:Tryd.pinned.checked.prog.funcNamed "hornbeam/hornbeamlaw14.UnifyOrder" = some f) (hfn:Tryd.pinned.checked.prog.funcs[f]?=some fn) :
    false=Tryd.pinned.checked.prog.looks []∧∀(j:Nat) t,fn.params[j]?=some t→Tryd.pinned.checked.prog.wantsStandIn t=false:=by
  obtain rfl:f=3:=Option.some.inj ((show Tryd.prog.funcNamed "hornbeam/hornbeamlaw14.UnifyOrder" = some 3 by kernel_rfl).symm.trans hf) |>.symm;obtain rfl:fn=Tryd.f3:=(Option.some.inj (Tryd.func3.symm.trans hfn)).symm;refine⟨by kernel_rfl,fun j t ht=>?_⟩;have hall:(Tryd.f3.params.toList.all fun t=>!Tryd.prog.wantsStandIn t)=true:=by kernel_rfl
  have:=List.all_eq_true.1 hall t (List.mem_of_getElem? (i:=j) (by rw[Array.getElem?_toList];exact ht));exact(show Tryd.prog.wantsStandIn t=false by simpa using this)

theorem card:Rows.UnifyOrderCardSaid :=
  Claim7.holds_tied_plain_at .later [] _ _ _ _ said (fun _ h=>by cases h) (by kernel_rfl) (fun _ h=>by cases h) unifyOrder_row_tie rfl ⟨rfl,rfl⟩ (by kernel_rfl) rfl plain (by kernel_rfl)
end Go.Proofs.YtknodnndkdnjbaaDoor.unifyOrder
