import Derived.Test.YtbooidfibigfcaaGreatDoorM7
import Derived.Test.YtbooidfibigfcaaGreatDoorM9
import Derived.Test.YtbooidfibigfcaaGreatDoorCards
import Derived.Test.YtbooidfibigfcaaGreatDoorTie
import Derived.WalkKit
import Derived.ProofKit
import Derived.OpenShut
import Derived.Deep.DeepHandedRow
import Derived.Lib.LaidIn
/- 'hornbeam/hornbeamlaw16.CompileIndex': the card, out of the run over the whole world. -/
namespace Go.Proofs.YtbooidfibigfcaaGreatDoor.compileIndexUpto
open Go.ChangeShapes Go.WideShapes Go.ChangeAt Go.RowKit Go.Hb Go.Proofs.hq Go.Lib Go.Shelf

theorem own:ownKnob Tryz.prog.godebug=none:=by kernel_rfl
theorem out:laidOutB Tryz.prog=true:=by kernel_rfl
theorem pars:Tryz.f3.params.toList.all (fun t=>Tryz.prog.readableRec t && decide (t < Tryz.prog.types.size))=true:=by kernel_rfl

theorem z64 {H:Type}:∀ps:List (DataW H),Rows.uptoBulkAll ps=(ps.map Rows.uptoBulk).sum
  |[]=>by rw[Rows.uptoBulkAll];rfl
  |d :: r=>by rw[Rows.uptoBulkAll,z64 r,List.map_cons,List.sum_cons]
theorem wt {H:Type}:Wt (Rows.uptoBulk (H:=H)):=by
  refine⟨fun d=>?_,fun ps=>?_,fun es rest=>?_⟩
  · cases d with
    |lit l=>cases l<;>simp [Rows.uptoBulk]
    |_=>simp [Rows.uptoBulk]
  · rw[Rows.uptoBulk,z64];exact Nat.le_refl _
  · rw[Rows.uptoBulk,z64 es];omega
theorem ztq {W:World}(hL:laidMetH Tryz.prog Rows.compileIndexUptoRow.laid W):Lib.Utf8Tabs (laysValid_ren.g 3) (laysValid_ren.g 4) W:=by
  have e1:Rows.laid_unicode_utf8_first=firstData:=by kernel_rfl
  have e2:Rows.laid_unicode_utf8_acceptRanges=acceptData:=by kernel_rfl
  refine utf8Tabs_of_readsT (U8Types.of196 laysValid) ⟨by kernel_rfl,by kernel_rfl,by kernel_rfl,by kernel_rfl,by kernel_rfl,by kernel_rfl,by kernel_rfl⟩ (e1 ▸ Lib.laidMet.reads hL (.tail _ (.head _))) (e2 ▸ Lib.laidMet.reads hL (.head _))
theorem z9w:TermTypes Tryz.prog 28 26 3 9 25:=⟨⟨_,Tryz.underlying28,rfl⟩,Tryz.underlying26,Tryz.underlying3,Tryz.underlying9,Tryz.underlying25,by kernel_rfl,by kernel_rfl,by kernel_rfl,by kernel_rfl,by kernel_rfl⟩
theorem zjz:BodyTypesW Tryz.prog 45 43 47 28 3:=⟨⟨_,Tryz.underlying45,rfl⟩,Tryz.underlying43,by kernel_rfl,by kernel_rfl,⟨_,Tryz.underlying47,rfl⟩,by kernel_rfl⟩

set_option maxRecDepth 100000 in
theorem zpu (H:Type) (enc:TypeId × Value->H) (W:World) (base:Nat) (args:Array Value) (ds gs:List (DataW H)) (before:List MemPlace)
    (hval:∀(j:Nat) t v,Tryz.f3.params[j]?=some t->args[j]?=some v->Value.okWide Tryz.prog W .any base t v)
    (hW:DataW.Whole enc Tryz.prog Tryz.f3.params.toList Rows.compileIndexSpec.vars false W args.toList ds gs before) (hk:Rows.uptoSmall H (ds++gs)=true) (hT:Lib.Utf8Tabs (laysValid_ren.g 3) (laysValid_ren.g 4) W) :
    Calls Tryz.prog 3 args W fun e W'=>∃v,e=.returned v/\Rows.compileIndexSpec.post enc Tryz.prog Tryz.f3 false true false false W args v W':=by
  refine zey out pars rfl rfl Tryz.underlying4 (fun ds hd=>by
    have hd':ds.length=3:=hd
    match ds,hd' with
    |[_,_,_],_=>exact⟨rfl,rfl,rfl⟩) hW (zl3 (mask:=2 ^ 134 - 1) (fa:=4) (fv:=80) zrm zrn zjx (fun s w hs hB=>zjy hT rfl s w hs hB) ?_)
  obtain⟨p,q,hA,_⟩:=hW;obtain⟨v',vs,d',ds1,p1,q1,hargs,rfl,rfl,⟨fuel',ht'⟩,hrest⟩:=trodAll_cons hA;obtain⟨v,vs',d,ds2,p2,q2,rfl,rfl,rfl,⟨fuel,ht⟩,hrest⟩:=trodAll_cons hrest;obtain⟨v2,vs2,d2,ds3,p3,q3,rfl,rfl,rfl,⟨fuel2,ht2⟩,hrest⟩:=trodAll_cons hrest;obtain⟨rfl,rfl,rfl⟩:=trodAll_nil hrest;obtain rfl:args=#[v',v,v2]:=by cases args;simp_all
  have hv:=hval 1 24 v rfl rfl;have hv2:=hval 2 28 v2 rfl rfl;have hv':=hval 0 23 v' rfl rfl;obtain⟨L,a,c,he,hr,hn1,hg⟩:=zfr z9w zjz Tryz.underlying24 wt ht (fun cs e=>by
    subst e;unfold Value.okWide at hv;rw[Tryz.underlying24] at hv;simp [Cell.okWide,Cell.ok,Tryz.underlying24] at hv)
  unfold Value.okWide at hv';rw[Tryz.underlying23] at hv';obtain⟨cs,rfl,-⟩:=hv';obtain⟨cs⟩:=cs;obtain⟨nm,ar,hcs,hnm⟩:=znw z9w Tryz.underlying23 rfl (by kernel_rfl) ht';have hcs:cs=[.string nm,.int .i64 ar]:=hcs;subst hcs;unfold Value.okWide at hv2;rw[Tryz.underlying28] at hv2;obtain⟨cs2,rfl,-⟩:=hv2;obtain⟨t,hrt,-⟩:=ztj z9w wt _ _ _ _ ht2;obtain⟨cs2⟩:=cs2;obtain⟨ta,tc,tcells,h6,-⟩:=hrt.six;have h2:Rows.uptoBulkAll ([d',d,d2]++gs)<=1048576:=of_decide_eq_true hk;have h3:Rows.uptoBulkAll ([d',d,d2]++gs)=Rows.uptoBulk d'+(Rows.uptoBulk d+(Rows.uptoBulk d2+Rows.uptoBulkAll gs)):=by rw[List.cons_append,Rows.uptoBulkAll,List.cons_append,Rows.uptoBulkAll,List.cons_append,Rows.uptoBulkAll,List.nil_append]
  have hb2:abV Tryz.prog W (.agg ⟨[.string nm,.int .i64 ar]⟩)=.agg ⟨[.string nm,.int .i64 ar]⟩:=rfl;have hb3:abV Tryz.prog W (.agg ⟨cs2⟩)=.agg ⟨six t ta tc⟩:=by rw[<-h6];rfl
  rw[h6] at hrt;simp only[List.map_cons,List.map_nil,he,hb2,hb3];exact z9u (k:=(nm,ar)) hr hrt (fun x hx=>znt (n:=1000000) _ _ (Nat.lt_succ_self _) (by have:=hg x hx;omega)) (by omega) zob

/-- a witness: zeros, and the tables as they are laid -/
noncomputable def zeros:Array Value:=Tryz.f3.params.map fun t=>((Tryz.prog.info? t).bind (·.zero)).getD undef
noncomputable def laidWorld (os:Os):World :=
  let w0:=World.holding Tryz.prog os ⟨#[],#[],[]⟩;let put (h:Array Obj) (g:Nat) (cs:Array Value):Array Obj:=h.modify g fun
    |.cells _ t frozen=>.cells cs t frozen
    |o=>o
  let h0:=put w0.heap 1 (([128,191,160,191,128,159,144,191,128,143,0,0,0,0,0,0,0,0,0,0,0,0,0,0,0,0,0,0,0,0,0,0]:List Int).map fun z=>Value.int .u8 z).toArray;let h1:=put h0 0 (Pinned.utf8FirstZ.map fun (z:Nat)=>Value.int .u8 z).toArray
  { w0 with heap:=h1 }
theorem zpv (os:Os) (args:Array Value):laidMet Tryz.prog Rows.compileIndexUptoRow.laid ((laidWorld os).forCall (fun _ _=>0) ⟨#[],args,[]⟩).memory :=
  (LaidIn.of_run (l:=Rows.compileIndexUptoRow.laid) [1,0] 8 (by kernel_rfl) (by kernel_rfl) (by kernel_rfl) (by kernel_rfl)).met
theorem reads (os:Os) {H:Type}(enc:TypeId × Value->H):(DataW.whole enc Tryz.prog ((laidWorld os).forCall (fun _ _=>0) ⟨#[],zeros,[]⟩).memory Tryz.f3.params.toList Rows.compileIndexSpec.vars false zeros.toList 8).isSome=true:=by kernel_rfl
theorem zvy (os:Os) {H:Type}(enc:TypeId × Value->H):(DataW.whole enc Tryz.prog ((laidWorld os).forCall (fun _ _=>0) ⟨#[],zeros,[]⟩).memory Tryz.f3.params.toList Rows.compileIndexSpec.vars false zeros.toList 8).map (fun x=>Rows.uptoSmall H (x.1++x.2.1))=some true:=by kernel_rfl

set_option maxRecDepth 100000 in
theorem zv9 (os:Os) (started:os.Started) (H:Type) (enc:TypeId × Value->H) (F:Stop.Interp) :
    ReturnsInHanded {} Tryz.checked os 3 .any ((Rows.OpenSpec.upto Rows.compileIndexSpec).preRow enc Tryz.prog Tryz.f3 Rows.compileIndexUptoRow.domain false Rows.compileIndexUptoRow.laid) (((Rows.OpenSpec.upto Rows.compileIndexSpec).at F).post enc Tryz.prog Tryz.f3 false true false false):=by
  obtain⟨x,hx⟩:=Option.isSome_iff_exists.1 (reads os enc);have hsm:Rows.uptoSmall H (x.1++x.2.1)=true:=by
    have h:=zvy os enc;rw[hx] at h;exact Option.some.inj h
  refine returnsInHanded_of_row (C:=Tryz.checked) (s:=Rows.OpenSpec.upto Rows.compileIndexSpec) own started (by kernel_rfl) Tryz.func3
    (witness_row_at (enc:=enc) (C:=Tryz.checked) false (laidWorld os) zeros rfl (by kernel_rfl) (by kernel_rfl) (by kernel_rfl)
      (OpenSpec.preRow_of_cond 8 hx rfl (fun k hk=>by
        obtain rfl:Rows.uptoSmall=k:=Option.some.inj hk;exact hsm) (by kernel_rfl) (zpv os _))) ?_
  intro W base args ds gs before hval hW _ hk _ hL _ _;exact zpu H enc W base args ds gs before hval hW (hk _ rfl) (ztq hL)

theorem said:Rows.CompileIndexUptoSaid :=
  OpenClaim.holds_of_cond 3 Tryz.f3 rfl rfl rfl rfl rfl rfl rfl ⟨rfl,rfl,rfl,rfl,rfl⟩ rfl rfl rfl rfl rfl (by kernel_rfl) Tryz.func3 (by kernel_rfl)
    (of_decide_eq_true (by kernel_rfl)) (by unfold Func.isWrapper;first|(rw[if_pos (by decide +kernel)];kernel_rfl)|(rw[if_neg (by decide +kernel)];exact⟨rfl,rfl⟩))
    (fun os started H enc _ F=>by rw[OpenClaim.pre_eq_preRow];exact zv9 os started H enc F)

theorem plain (f:FuncId) (fn:Func) (hf:Tryz.pinned.checked.prog.funcNamed "hornbeam/hornbeamlaw16.CompileIndex" = some f) (hfn:Tryz.pinned.checked.prog.funcs[f]?=some fn) :
    true=Tryz.pinned.checked.prog.looks []/\∀(j:Nat) t,fn.params[j]?=some t->Tryz.pinned.checked.prog.wantsStandIn t=false:=by
  obtain rfl:f=3:=Option.some.inj ((show Tryz.prog.funcNamed "hornbeam/hornbeamlaw16.CompileIndex" = some 3 by kernel_rfl).symm.trans hf) |>.symm;obtain rfl:fn=Tryz.f3:=(Option.some.inj (Tryz.func3.symm.trans hfn)).symm;refine⟨by kernel_rfl,fun j t ht=>?_⟩;have hall:(Tryz.f3.params.toList.all fun t=>!Tryz.prog.wantsStandIn t)=true:=by kernel_rfl
  have:=List.all_eq_true.1 hall t (List.mem_of_getElem? (i:=j) (by rw[Array.getElem?_toList];exact ht));exact(show Tryz.prog.wantsStandIn t=false by simpa using this)

theorem card:Rows.CompileIndexUptoCardSaid :=
  Claim7.holds_tied_plain_at .later [] _ _ _ _ said (fun _ h=>by cases h) (by kernel_rfl) (fun _ h=>by cases h) compileIndexUpto_row_tie rfl ⟨rfl,rfl⟩ (by kernel_rfl) rfl plain (by kernel_rfl)
end Go.Proofs.YtbooidfibigfcaaGreatDoor.compileIndexUpto
