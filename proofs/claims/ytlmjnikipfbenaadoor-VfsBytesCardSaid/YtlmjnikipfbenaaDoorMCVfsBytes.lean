import Derived.Test.YtlmjnikipfbenaaDoorM3
import Derived.Test.YtlmjnikipfbenaaDoorM4
import Derived.Test.YtlmjnikipfbenaaDoorCards
import Derived.Test.YtlmjnikipfbenaaDoorTie
import Derived.WalkKit
import Derived.ProofKit
import Derived.OpenShut
import Derived.Deep.DeepHandedRow
import Derived.Lib.LaidIn
/- 'hornbeam/hornbeamlaw08.VfsBytes': the card, out of the run over the whole world. -/
namespace Go.Proofs.YtlmjnikipfbenaaDoor.vfsBytes
open Go.ChangeShapes Go.WideShapes Go.ChangeAt Go.RowKit Go.Hb Go.Proofs.hq Go.Lib Go.Shelf

theorem own:ownKnob Tryd.prog.godebug=none:=by kernel_rfl
theorem out:laidOutB Tryd.prog=true:=by kernel_rfl
theorem pars:Tryd.f3.params.toList.all (fun t=>Tryd.prog.readableRec t && decide (t < Tryd.prog.types.size))=true:=by kernel_rfl

theorem zeg {W:World}(hL:laidMetH Tryd.prog Rows.vfsBytesRow.laid W):TabsF W:=by
  have e1:Rows.laid_unicode_utf8_first=firstData:=by kernel_rfl
  have e2:Rows.laid_unicode_utf8_acceptRanges=acceptData:=by kernel_rfl
  have e3:(Rows.laid_internal_strconv_uint64pow10:DataW Unit)=Lib.tabData .u64 Lib.pow10Tab:=by kernel_rfl
  refine⟨?_,zf4 (e3 ▸ Lib.laidMet.reads hL (.tail _ (.tail _ (.head _))))⟩;refine utf8Tabs_of_readsT (U8Types.of196 laysValid) ⟨by kernel_rfl,by kernel_rfl,by kernel_rfl,by kernel_rfl,by kernel_rfl,by kernel_rfl,by kernel_rfl⟩ (e1 ▸ Lib.laidMet.reads hL (.tail _ (.tail _ (.tail _ (.tail _ (.head _)))))) (e2 ▸ Lib.laidMet.reads hL (.tail _ (.tail _ (.tail _ (.head _)))))

set_option maxRecDepth 100000 in
theorem zcy (H:Type) (enc:TypeId × Value→H) (W:World) (base:Nat) (args:Array Value) (ds gs:List (DataW H)) (before:List MemPlace)
    (hval:∀(j:Nat) t v,Tryd.f3.params[j]?=some t→args[j]?=some v→Value.okWide Tryd.prog W .any base t v)
    (hW:DataW.Whole enc Tryd.prog Tryd.f3.params.toList Rows.vfsBytesSpec.vars false W args.toList ds gs before) (hT:TabsF W) :
    Calls Tryd.prog 3 args W fun e W'=>∃v,e=.returned v∧Rows.vfsBytesSpec.post enc Tryd.prog Tryd.f3 false true false false W args v W':=by
  refine z81 out pars rfl rfl Tryd.underlying4 (fun ds hd=>by
    have hd':ds.length=2:=hd
    match ds,hd' with
    |[_,_],_=>exact⟨rfl,rfl,rfl⟩) hW (zcx hT ?_)
  obtain⟨p,q,hA,_⟩:=hW;obtain⟨v,vs,d,ds1,p1,q1,hargs,rfl,rfl,⟨fuel,ht⟩,hrest⟩:=trodAll_cons hA;obtain⟨v',vs',d',ds2,p2,q2,rfl,rfl,rfl,⟨fuel',ht'⟩,hrest⟩:=trodAll_cons hrest;obtain⟨rfl,rfl,rfl⟩:=trodAll_nil hrest;obtain rfl:args=#[v,v']:=by cases args;simp_all
  have hs:∃s:ByteArray,v=.string s∧s.size≤maxLen:=by
    have h:=hval 0 9 v rfl rfl;unfold Value.okWide at h;rw[Tryd.underlying9] at h;cases v with
    |string s=>exact⟨s,rfl,by
      have h':(s.size:Int)≤9223372036854775807:=by simpa [Cell.okWide,Cell.ok,Tryd.underlying9] using h
      have:maxLen=9223372036854775807:=rfl;omega⟩
    |_=>simp [Cell.okWide,Cell.ok,Tryd.underlying9] at h
  have hi:∃n,v'=.int .i64 n∧i64 n:=by
    have h:=hval 1 3 v' rfl rfl;unfold Value.okWide at h;rw[Tryd.underlying3] at h;cases v' with
    |int k n =>
      simp [Cell.okWide,Cell.ok,Tryd.underlying3] at h;obtain⟨rfl,h⟩:=h;have m1:IntKind.i64.min=-9223372036854775808:=by decide
      have m2:IntKind.i64.max=9223372036854775807:=by decide
      rw[IntKind.has,m1,m2] at h;exact⟨n,rfl,h⟩
    |_=>simp [Cell.okWide,Cell.ok,Tryd.underlying3] at h
  obtain⟨s,rfl,hs⟩:=hs;obtain⟨n,rfl,hn⟩:=hi;exact z8d hs hn zcf

/-- a witness: zeros, and the tables as they are laid -/
noncomputable def zeros:Array Value:=Tryd.f3.params.map fun t=>((Tryd.prog.info? t).bind (·.zero)).getD undef
noncomputable def laidWorld (os:Os):World :=
  let w0:=World.holding Tryd.prog os ⟨#[],#[],[]⟩;let put (h:Array Obj) (g:Nat) (cs:Array Value):Array Obj:=h.modify g fun
    |.cells _ t frozen=>.cells cs t frozen
    |o=>o
  let h0:=put w0.heap 4 (([0,1,28,2,29,14,24,3,30,22,20,15,25,17,4,8,31,27,13,23,21,19,16,7,26,12,18,6,11,5,10,9]:List Int).map fun z=>Value.int .u8 z).toArray;let h1:=put h0 5 (([0,1,56,2,57,49,28,3,61,58,42,50,38,29,17,4,62,47,59,36,45,43,51,22,53,39,33,30,24,18,12,5,63,55,48,27,60,41,37,16,46,35,44,21,52,32,23,11,54,26,40,15,34,20,31,10,25,14,19,9,13,8,7,6]:List Int).map fun z=>Value.int .u8 z).toArray;let h2:=put h1 3 (([1,10,100,1000,10000,100000,1000000,10000000,100000000,1000000000,10000000000,100000000000,1000000000000,10000000000000,100000000000000,1000000000000000,10000000000000000,100000000000000000,1000000000000000000,10000000000000000000]:List Int).map fun z=>Value.int .u64 z).toArray;let h3:=put h2 1 (([128,191,160,191,128,159,144,191,128,143,0,0,0,0,0,0,0,0,0,0,0,0,0,0,0,0,0,0,0,0,0,0]:List Int).map fun z=>Value.int .u8 z).toArray;let h4:=put h3 0 (Pinned.utf8FirstZ.map fun (z:Nat)=>Value.int .u8 z).toArray
  { w0 with heap:=h4 }
theorem zcz (os:Os) (args:Array Value):laidMet Tryd.prog Rows.vfsBytesRow.laid ((laidWorld os).forCall (fun _ _=>0) ⟨#[],args,[]⟩).memory :=
  (LaidIn.of_run (l:=Rows.vfsBytesRow.laid) [4,5,3,1,0] 8 (by kernel_rfl) (by kernel_rfl) (by kernel_rfl) (by kernel_rfl)).met
theorem reads (os:Os) {H:Type}(enc:TypeId × Value→H):(DataW.whole enc Tryd.prog ((laidWorld os).forCall (fun _ _=>0) ⟨#[],zeros,[]⟩).memory Tryd.f3.params.toList Rows.vfsBytesSpec.vars false zeros.toList 8).isSome=true:=by kernel_rfl

set_option maxRecDepth 100000 in
theorem zey (os:Os) (started:os.Started) (H:Type) (enc:TypeId × Value→H) (F:Stop.Interp) :
    ReturnsInHanded {} Tryd.checked os 3 .any ((OpenSpec.ofChange Rows.vfsBytesSpec).preRow enc Tryd.prog Tryd.f3 Rows.vfsBytesRow.domain false Rows.vfsBytesRow.laid) (((OpenSpec.ofChange Rows.vfsBytesSpec).at F).post enc Tryd.prog Tryd.f3 false true false false):=by
  obtain⟨x,hx⟩:=Option.isSome_iff_exists.1 (reads os enc);refine returnsInHanded_of_row (C:=Tryd.checked) (s:=OpenSpec.ofChange Rows.vfsBytesSpec) own started (by kernel_rfl) Tryd.func3
    (witness_row_at (enc:=enc) (C:=Tryd.checked) false (laidWorld os) zeros rfl (by kernel_rfl) (by kernel_rfl) (by kernel_rfl)
      (OpenSpec.preRow_of_cond 8 hx rfl (fun k hk=>by cases hk) (by kernel_rfl) (zcz os _))) ?_
  intro W base args ds gs before hval hW _ _ _ hL _ _;exact zcy H enc W base args ds gs before hval hW (zeg hL)

theorem said:Rows.VfsBytesSaid :=
  OpenClaim.holds_of_cond 3 Tryd.f3 rfl rfl rfl rfl rfl rfl rfl ⟨rfl,rfl,rfl,rfl,rfl⟩ rfl rfl rfl rfl rfl (by kernel_rfl) Tryd.func3 (by kernel_rfl)
    (of_decide_eq_true (by kernel_rfl)) (by unfold Func.isWrapper;first|(rw[if_pos (by decide +kernel)];kernel_rfl)|(rw[if_neg (by decide +kernel)];exact⟨rfl,rfl⟩))
    (fun os started H enc _ F=>by rw[OpenClaim.pre_eq_preRow];exact zey os started H enc F)

theorem plain (f:FuncId) (fn:Func) (hf:Tryd.pinned.checked.prog.funcNamed "hornbeam/hornbeamlaw08.VfsBytes" = some f) (hfn:Tryd.pinned.checked.prog.funcs[f]?=some fn) :
    false=Tryd.pinned.checked.prog.looks []∧∀(j:Nat) t,fn.params[j]?=some t→Tryd.pinned.checked.prog.wantsStandIn t=false:=by
  obtain rfl:f=3:=Option.some.inj ((show Tryd.prog.funcNamed "hornbeam/hornbeamlaw08.VfsBytes" = some 3 by kernel_rfl).symm.trans hf) |>.symm;obtain rfl:fn=Tryd.f3:=(Option.some.inj (Tryd.func3.symm.trans hfn)).symm;refine⟨by kernel_rfl,fun j t ht=>?_⟩;have hall:(Tryd.f3.params.toList.all fun t=>!Tryd.prog.wantsStandIn t)=true:=by kernel_rfl
  have:=List.all_eq_true.1 hall t (List.mem_of_getElem? (i:=j) (by rw[Array.getElem?_toList];exact ht));exact(show Tryd.prog.wantsStandIn t=false by simpa using this)

theorem card:Rows.VfsBytesCardSaid :=
  Claim7.holds_tied_plain_at .later [] _ _ _ _ said (fun _ h=>by cases h) (by kernel_rfl) (fun _ h=>by cases h) vfsBytes_row_tie rfl ⟨rfl,rfl⟩ (by kernel_rfl) rfl plain (by kernel_rfl)
end Go.Proofs.YtlmjnikipfbenaaDoor.vfsBytes
