import Derived.Test.YtfalgpiidlhhjaaGreatDoorM7
import Derived.Test.YtfalgpiidlhhjaaGreatDoorM8
import Derived.Test.YtfalgpiidlhhjaaGreatDoorCards
import Derived.Test.YtfalgpiidlhhjaaGreatDoorTie
import Derived.WalkKit
import Derived.ProofKit
import Derived.OpenShut
import Derived.Deep.DeepHandedRow
import Derived.Lib.LaidIn
/- 'hornbeam/hornbeamlaw14.UnifyMost': the card, out of the run over the whole world. -/
namespace Go.Proofs.YtfalgpiidlhhjaaGreatDoor.unifyMost
open Go.ChangeShapes Go.WideShapes Go.ChangeAt Go.RowKit Go.Hb Go.Proofs.hq Go.Lib Go.Shelf

theorem own:ownKnob Tryz.prog.godebug=none:=by kernel_rfl
theorem out:laidOutB Tryz.prog=true:=by kernel_rfl
theorem pars:Tryz.f4.params.toList.all (fun t=>Tryz.prog.readableRec t && decide (t < Tryz.prog.types.size))=true:=by kernel_rfl

theorem zsj {W:World}(hL:laidMetH Tryz.prog Rows.unifyMostRow.laid W):Lib.Utf8Tabs (laysValid_ren.g 3) (laysValid_ren.g 4) W:=by
  have e1:Rows.laid_unicode_utf8_first=firstData:=by kernel_rfl
  have e2:Rows.laid_unicode_utf8_acceptRanges=acceptData:=by kernel_rfl
  refine utf8Tabs_of_readsT (U8Types.of196 laysValid) ⟨by kernel_rfl,by kernel_rfl,by kernel_rfl,by kernel_rfl,by kernel_rfl,by kernel_rfl,by kernel_rfl⟩ (e1 ▸ Lib.laidMet.reads hL (.tail _ (.head _))) (e2 ▸ Lib.laidMet.reads hL (.head _))
theorem z9e:TermTypes Tryz.prog 40 32 3 9 38:=⟨⟨_,Tryz.underlying40,rfl⟩,Tryz.underlying32,Tryz.underlying3,Tryz.underlying9,Tryz.underlying38,by kernel_rfl,by kernel_rfl,by kernel_rfl,by kernel_rfl,by kernel_rfl⟩
theorem zn1:BindTypes Tryz.prog 87 48 40 3:=⟨⟨_,Tryz.underlying87,rfl⟩,Tryz.underlying48,by kernel_rfl⟩

set_option maxRecDepth 100000 in
theorem zp2 (H:Type) (enc:TypeId × Value->H) (W:World) (base:Nat) (args:Array Value) (ds gs:List (DataW H)) (before:List MemPlace)
    (hval:∀(j:Nat) t v,Tryz.f4.params[j]?=some t->args[j]?=some v->Value.okWide Tryz.prog W .any base t v)
    (hW:DataW.Whole enc Tryz.prog Tryz.f4.params.toList Rows.unifyMostSpec.vars false W args.toList ds gs before) (hT:Lib.Utf8Tabs (laysValid_ren.g 3) (laysValid_ren.g 4) W) :
    Calls Tryz.prog 4 args W fun e W'=>∃v,e=.returned v/\Rows.unifyMostSpec.post enc Tryz.prog Tryz.f4 false true false false W args v W':=by
  refine zen out pars rfl rfl Tryz.underlying4 (fun ds hd=>by
    have hd':ds.length=3:=hd
    match ds,hd' with
    |[_,_,_],_=>exact⟨rfl,rfl,rfl⟩) hW (zkm (mask:=2 ^ 216 - 1) (fa:=5) (fv:=145) zq8 zq9 zjk (fun s w hs hB=>zjl hT rfl s w hs hB) ?_)
  obtain⟨p,q,hA,_⟩:=hW;obtain⟨v,v',v2,d,d',d2,p1,p2,p3,rfl,rfl,rfl,⟨fuel,ht⟩,⟨fuel',ht'⟩,⟨fuel2,ht2⟩⟩:=trodAll_three hA;have hv:=hval 0 40 v rfl rfl;unfold Value.okWide at hv;rw[Tryz.underlying40] at hv;obtain⟨cs,rfl,-⟩:=hv;obtain⟨t,hr⟩:=z5p z9e fuel _ _ _ ht;have hv':=hval 1 40 v' rfl rfl;unfold Value.okWide at hv';rw[Tryz.underlying40] at hv';obtain⟨cs',rfl,-⟩:=hv';obtain⟨t',hr'⟩:=z5p z9e fuel' _ _ _ ht';obtain⟨cs⟩:=cs;obtain⟨cs'⟩:=cs';have hv2:=hval 2 48 v2 rfl rfl;obtain⟨B,a2,c2,he2,hb⟩:=zp0 z9e zn1 ht2 (fun cs e=>by
    subst e;unfold Value.okWide at hv2;rw[Tryz.underlying48] at hv2;simp [Cell.okWide,Cell.ok,Tryz.underlying48] at hv2)
  simp only[List.map_cons,List.map_nil,he2];exact ze6 hr hr' hb znf

/-- a witness: zeros, and the tables as they are laid -/
noncomputable def zeros:Array Value:=Tryz.f4.params.map fun t=>((Tryz.prog.info? t).bind (·.zero)).getD undef
noncomputable def laidWorld (os:Os):World :=
  let w0:=World.holding Tryz.prog os ⟨#[],#[],[]⟩;let put (h:Array Obj) (g:Nat) (cs:Array Value):Array Obj:=h.modify g fun
    |.cells _ t frozen=>.cells cs t frozen
    |o=>o
  let h0:=put w0.heap 2 (([128,191,160,191,128,159,144,191,128,143,0,0,0,0,0,0,0,0,0,0,0,0,0,0,0,0,0,0,0,0,0,0]:List Int).map fun z=>Value.int .u8 z).toArray;let h1:=put h0 1 (Pinned.utf8FirstZ.map fun (z:Nat)=>Value.int .u8 z).toArray
  { w0 with heap:=h1 }
theorem zp3 (os:Os) (args:Array Value):laidMet Tryz.prog Rows.unifyMostRow.laid ((laidWorld os).forCall (fun _ _=>0) ⟨#[],args,[]⟩).memory :=
  (LaidIn.of_run (l:=Rows.unifyMostRow.laid) [2,1] 8 (by kernel_rfl) (by kernel_rfl) (by kernel_rfl) (by kernel_rfl)).met
theorem reads (os:Os) {H:Type}(enc:TypeId × Value->H):(DataW.whole enc Tryz.prog ((laidWorld os).forCall (fun _ _=>0) ⟨#[],zeros,[]⟩).memory Tryz.f4.params.toList Rows.unifyMostSpec.vars false zeros.toList 8).isSome=true:=by kernel_rfl

set_option maxRecDepth 100000 in
theorem zu3 (os:Os) (started:os.Started) (H:Type) (enc:TypeId × Value->H) (F:Stop.Interp) :
    ReturnsInHanded {} Tryz.checked os 4 .any ((OpenSpec.ofChange Rows.unifyMostSpec).preRow enc Tryz.prog Tryz.f4 Rows.unifyMostRow.domain false Rows.unifyMostRow.laid) (((OpenSpec.ofChange Rows.unifyMostSpec).at F).post enc Tryz.prog Tryz.f4 false true false false):=by
  obtain⟨x,hx⟩:=Option.isSome_iff_exists.1 (reads os enc);refine returnsInHanded_of_row (C:=Tryz.checked) (s:=OpenSpec.ofChange Rows.unifyMostSpec) own started (by kernel_rfl) Tryz.func4
    (witness_row_at (enc:=enc) (C:=Tryz.checked) false (laidWorld os) zeros rfl (by kernel_rfl) (by kernel_rfl) (by kernel_rfl)
      (OpenSpec.preRow_of_cond 8 hx rfl (fun k hk=>by cases hk) (by kernel_rfl) (zp3 os _))) ?_
  intro W base args ds gs before hval hW _ _ _ hL _ _;exact zp2 H enc W base args ds gs before hval hW (zsj hL)

theorem said:Rows.UnifyMostSaid :=
  OpenClaim.holds_of_cond 4 Tryz.f4 rfl rfl rfl rfl rfl rfl rfl ⟨rfl,rfl,rfl,rfl,rfl⟩ rfl rfl rfl rfl rfl (by kernel_rfl) Tryz.func4 (by kernel_rfl)
    (of_decide_eq_true (by kernel_rfl)) (by unfold Func.isWrapper;first|(rw[if_pos (by decide +kernel)];kernel_rfl)|(rw[if_neg (by decide +kernel)];exact⟨rfl,rfl⟩))
    (fun os started H enc _ F=>by rw[OpenClaim.pre_eq_preRow];exact zu3 os started H enc F)

theorem plain (f:FuncId) (fn:Func) (hf:Tryz.pinned.checked.prog.funcNamed "hornbeam/hornbeamlaw14.UnifyMost" = some f) (hfn:Tryz.pinned.checked.prog.funcs[f]?=some fn) :
    false=Tryz.pinned.checked.prog.looks []/\∀(j:Nat) t,fn.params[j]?=some t->Tryz.pinned.checked.prog.wantsStandIn t=false:=by
  obtain rfl:f=4:=Option.some.inj ((show Tryz.prog.funcNamed "hornbeam/hornbeamlaw14.UnifyMost" = some 4 by kernel_rfl).symm.trans hf) |>.symm;obtain rfl:fn=Tryz.f4:=(Option.some.inj (Tryz.func4.symm.trans hfn)).symm;refine⟨by kernel_rfl,fun j t ht=>?_⟩;have hall:(Tryz.f4.params.toList.all fun t=>!Tryz.prog.wantsStandIn t)=true:=by kernel_rfl
  have:=List.all_eq_true.1 hall t (List.mem_of_getElem? (i:=j) (by rw[Array.getElem?_toList];exact ht));exact(show Tryz.prog.wantsStandIn t=false by simpa using this)

theorem card:Rows.UnifyMostCardSaid :=
  Claim7.holds_tied_plain_at .later [] _ _ _ _ said (fun _ h=>by cases h) (by kernel_rfl) (fun _ h=>by cases h) unifyMost_row_tie rfl ⟨rfl,rfl⟩ (by kernel_rfl) rfl plain (by kernel_rfl)
end Go.Proofs.YtfalgpiidlhhjaaGreatDoor.unifyMost
