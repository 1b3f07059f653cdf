import Derived.Test.YtbooidfibigfcaaDoorM7
import Derived.Test.YtbooidfibigfcaaDoorM9
import Derived.Test.YtbooidfibigfcaaDoorCards
import Derived.Test.YtbooidfibigfcaaDoorTie
import Derived.WalkKit
import Derived.ProofKit
import Derived.OpenShut
import Derived.Deep.DeepHandedRow
import Derived.Lib.LaidIn
/- 'hornbeam/hornbeamlaw12.DatabaseView': the card, out of the run over the whole world. -/
namespace Go.Proofs.YtbooidfibigfcaaDoor.databaseViewUpto
open Go.ChangeShapes Go.WideShapes Go.ChangeAt Go.RowKit Go.Hb Go.Proofs.hq Go.Lib Go.Shelf

theorem own:ownKnob Tryd.prog.godebug=none:=by kernel_rfl
theorem out:laidOutB Tryd.prog=true:=by kernel_rfl
theorem pars:Tryd.f4.params.toList.all (fun t=>Tryd.prog.readableRec t && decide (t < Tryd.prog.types.size))=true:=by kernel_rfl

theorem z5u {H:Type}:∀ps:List (DataW H),Rows.uptoBulkAll ps=(ps.map Rows.uptoBulk).sum
  |[]=>by rw[Rows.uptoBulkAll];rfl
  |d :: r=>by rw[Rows.uptoBulkAll,z5u r,List.map_cons,List.sum_cons]
theorem wt {H:Type}:Wt (Rows.uptoBulk (H:=H)):=by
  refine⟨fun d=>?_,fun ps=>?_,fun es rest=>?_⟩
  · cases d with
    |lit l=>cases l<;>simp [Rows.uptoBulk]
    |_=>simp [Rows.uptoBulk]
  · rw[Rows.uptoBulk,z5u];exact Nat.le_refl _
  · rw[Rows.uptoBulk,z5u es];omega
theorem zt9 {W:World}(hL:laidMetH Tryd.prog Rows.databaseViewUptoRow.laid W):Lib.Utf8Tabs (laysValid_ren.g 3) (laysValid_ren.g 4) W:=by
  have e1:Rows.laid_unicode_utf8_first=firstData:=by kernel_rfl
  have e2:Rows.laid_unicode_utf8_acceptRanges=acceptData:=by kernel_rfl
  refine utf8Tabs_of_readsT (U8Types.of196 laysValid) ⟨by kernel_rfl,by kernel_rfl,by kernel_rfl,by kernel_rfl,by kernel_rfl,by kernel_rfl,by kernel_rfl⟩ (e1 ▸ Lib.laidMet.reads hL (.tail _ (.head _))) (e2 ▸ Lib.laidMet.reads hL (.head _))
theorem z9u:TermTypes Tryd.prog 26 22 3 9 24:=⟨⟨_,Tryd.underlying26,rfl⟩,Tryd.underlying22,Tryd.underlying3,Tryd.underlying9,Tryd.underlying24,by kernel_rfl,by kernel_rfl,by kernel_rfl,by kernel_rfl,by kernel_rfl⟩
theorem zb3:BodyTypesW Tryd.prog 53 51 55 26 3:=⟨⟨_,Tryd.underlying53,rfl⟩,Tryd.underlying51,by kernel_rfl,by kernel_rfl,⟨_,Tryd.underlying55,rfl⟩,by kernel_rfl⟩

set_option maxRecDepth 100000 in
theorem zpn (H:Type) (enc:TypeId × Value->H) (W:World) (base:Nat) (args:Array Value) (ds gs:List (DataW H)) (before:List MemPlace)
    (hval:∀(j:Nat) t v,Tryd.f4.params[j]?=some t->args[j]?=some v->Value.okWide Tryd.prog W .any base t v)
    (hW:DataW.Whole enc Tryd.prog Tryd.f4.params.toList Rows.databaseViewSpec.vars false W args.toList ds gs before) (hk:Rows.uptoSmall H (ds++gs)=true) (hT:Lib.Utf8Tabs (laysValid_ren.g 3) (laysValid_ren.g 4) W) :
    Calls Tryd.prog 4 args W fun e W'=>∃v,e=.returned v/\Rows.databaseViewSpec.post enc Tryd.prog Tryd.f4 false true false false W args v W':=by
  refine zf5 out pars rfl rfl Tryd.underlying4 (fun ds hd=>by
    have hd':ds.length=3:=hd
    match ds,hd' with
    |[_,_,_],_=>exact⟨rfl,rfl,rfl⟩) hW (zpm hT ?_)
  obtain⟨p,q,hA,_⟩:=hW;obtain⟨v,vs,d,ds1,p1,q1,hargs,rfl,rfl,⟨fuel,ht⟩,hrest⟩:=trodAll_cons hA;obtain⟨v',vs',d',ds2,p2,q2,rfl,rfl,rfl,⟨fuel',ht'⟩,hrest⟩:=trodAll_cons hrest;obtain⟨v2,vs2,d2,ds3,p3,q3,rfl,rfl,rfl,⟨fuel2,ht2⟩,hrest⟩:=trodAll_cons hrest;obtain⟨rfl,rfl,rfl⟩:=trodAll_nil hrest;obtain rfl:args=#[v,v',v2]:=by cases args;simp_all
  have hv:=hval 0 45 v rfl rfl;have hv2:=hval 2 45 v2 rfl rfl;have hv':=hval 1 47 v' rfl rfl;obtain⟨L,a,c,he,hr,hn1,hg⟩:=zni z9u zb3 Tryd.underlying45 Tryd.underlying57 rfl Tryd.underlying47 rfl (by kernel_rfl) (by kernel_rfl) (by kernel_rfl) Tryd.underlying4 (by kernel_rfl) wt ht (fun cs e=>by
    subst e;unfold Value.okWide at hv;rw[Tryd.underlying45] at hv;simp [Cell.okWide,Cell.ok,Tryd.underlying45] at hv)
  obtain⟨L2,a2,c2,he2,hr2,hn2,hg2⟩:=zni z9u zb3 Tryd.underlying45 Tryd.underlying57 rfl Tryd.underlying47 rfl (by kernel_rfl) (by kernel_rfl) (by kernel_rfl) Tryd.underlying4 (by kernel_rfl) wt ht2 (fun cs e=>by
    subst e;unfold Value.okWide at hv2;rw[Tryd.underlying45] at hv2;simp [Cell.okWide,Cell.ok,Tryd.underlying45] at hv2)
  unfold Value.okWide at hv';rw[Tryd.underlying47] at hv';obtain⟨cs,rfl,-⟩:=hv';obtain⟨cs⟩:=cs;obtain⟨nm,ar,hcs,hnm⟩:=zt8 z9u Tryd.underlying47 rfl (by kernel_rfl) ht';have hcs:cs=[.string nm,.int .i64 ar]:=hcs;subst hcs;have h2:Rows.uptoBulkAll ([d,d',d2]++gs)<=1048576:=of_decide_eq_true hk;have h3:Rows.uptoBulkAll ([d,d',d2]++gs)=Rows.uptoBulk d+(Rows.uptoBulk d'+(Rows.uptoBulk d2+Rows.uptoBulkAll gs)):=by rw[List.cons_append,Rows.uptoBulkAll,List.cons_append,Rows.uptoBulkAll,List.cons_append,Rows.uptoBulkAll,List.nil_append]
  have hb2:abV Tryd.prog W (.agg ⟨[.string nm,.int .i64 ar]⟩)=.agg ⟨[.string nm,.int .i64 ar]⟩:=rfl;simp only[List.map_cons,List.map_nil,he,he2,hb2];exact z9s (k:=(nm,ar)) hr hr2 (fun x hx=>⟨zfx (n:=1000000) _ _ (Nat.lt_succ_self _) (by have:=(hg x hx).1;omega),(hg x hx).2⟩) (fun x hx=>⟨zfx (n:=1000000) _ _ (Nat.lt_succ_self _) (by have:=(hg2 x hx).1;omega),(hg2 x hx).2⟩) hnm (by unfold most;omega) zny

/-- a witness: zeros, and the tables as they are laid -/
noncomputable def zeros:Array Value:=Tryd.f4.params.map fun t=>((Tryd.prog.info? t).bind (·.zero)).getD undef
noncomputable def laidWorld (os:Os):World :=
  let w0:=World.holding Tryd.prog os ⟨#[],#[],[]⟩;let put (h:Array Obj) (g:Nat) (cs:Array Value):Array Obj:=h.modify g fun
    |.cells _ t frozen=>.cells cs t frozen
    |o=>o
  let h0:=put w0.heap 1 (([128,191,160,191,128,159,144,191,128,143,0,0,0,0,0,0,0,0,0,0,0,0,0,0,0,0,0,0,0,0,0,0]:List Int).map fun z=>Value.int .u8 z).toArray;let h1:=put h0 0 (Pinned.utf8FirstZ.map fun (z:Nat)=>Value.int .u8 z).toArray
  { w0 with heap:=h1 }
theorem zpo (os:Os) (args:Array Value):laidMet Tryd.prog Rows.databaseViewUptoRow.laid ((laidWorld os).forCall (fun _ _=>0) ⟨#[],args,[]⟩).memory :=
  (LaidIn.of_run (l:=Rows.databaseViewUptoRow.laid) [1,0] 8 (by kernel_rfl) (by kernel_rfl) (by kernel_rfl) (by kernel_rfl)).met
theorem reads (os:Os) {H:Type}(enc:TypeId × Value->H):(DataW.whole enc Tryd.prog ((laidWorld os).forCall (fun _ _=>0) ⟨#[],zeros,[]⟩).memory Tryd.f4.params.toList Rows.databaseViewSpec.vars false zeros.toList 8).isSome=true:=by kernel_rfl
theorem zw7 (os:Os) {H:Type}(enc:TypeId × Value->H):(DataW.whole enc Tryd.prog ((laidWorld os).forCall (fun _ _=>0) ⟨#[],zeros,[]⟩).memory Tryd.f4.params.toList Rows.databaseViewSpec.vars false zeros.toList 8).map (fun x=>Rows.uptoSmall H (x.1++x.2.1))=some true:=by kernel_rfl

set_option maxRecDepth 100000 in
theorem zv5 (os:Os) (started:os.Started) (H:Type) (enc:TypeId × Value->H) (F:Stop.Interp) :
    ReturnsInHanded {} Tryd.checked os 4 .any ((Rows.OpenSpec.upto Rows.databaseViewSpec).preRow enc Tryd.prog Tryd.f4 Rows.databaseViewUptoRow.domain false Rows.databaseViewUptoRow.laid) (((Rows.OpenSpec.upto Rows.databaseViewSpec).at F).post enc Tryd.prog Tryd.f4 false true false false):=by
  obtain⟨x,hx⟩:=Option.isSome_iff_exists.1 (reads os enc);have hsm:Rows.uptoSmall H (x.1++x.2.1)=true:=by
    have h:=zw7 os enc;rw[hx] at h;exact Option.some.inj h
  refine returnsInHanded_of_row (C:=Tryd.checked) (s:=Rows.OpenSpec.upto Rows.databaseViewSpec) own started (by kernel_rfl) Tryd.func4
    (witness_row_at (enc:=enc) (C:=Tryd.checked) false (laidWorld os) zeros rfl (by kernel_rfl) (by kernel_rfl) (by kernel_rfl)
      (OpenSpec.preRow_of_cond 8 hx rfl (fun k hk=>by
        obtain rfl:Rows.uptoSmall=k:=Option.some.inj hk;exact hsm) (by kernel_rfl) (zpo os _))) ?_
  intro W base args ds gs before hval hW _ hk _ hL _ _;exact zpn H enc W base args ds gs before hval hW (hk _ rfl) (zt9 hL)

theorem said:Rows.DatabaseViewUptoSaid :=
  OpenClaim.holds_of_cond 4 Tryd.f4 rfl rfl rfl rfl rfl rfl rfl ⟨rfl,rfl,rfl,rfl,rfl⟩ rfl rfl rfl rfl rfl (by kernel_rfl) Tryd.func4 (by kernel_rfl)
    (of_decide_eq_true (by kernel_rfl)) (by unfold Func.isWrapper;first|(rw[if_pos (by decide +kernel)];kernel_rfl)|(rw[if_neg (by decide +kernel)];exact⟨rfl,rfl⟩))
    (fun os started H enc _ F=>by rw[OpenClaim.pre_eq_preRow];exact zv5 os started H enc F)

theorem plain (f:FuncId) (fn:Func) (hf:Tryd.pinned.checked.prog.funcNamed "hornbeam/hornbeamlaw12.DatabaseView" = some f) (hfn:Tryd.pinned.checked.prog.funcs[f]?=some fn) :
    true=Tryd.pinned.checked.prog.looks []/\∀(j:Nat) t,fn.params[j]?=some t->Tryd.pinned.checked.prog.wantsStandIn t=false:=by
  obtain rfl:f=4:=Option.some.inj ((show Tryd.prog.funcNamed "hornbeam/hornbeamlaw12.DatabaseView" = some 4 by kernel_rfl).symm.trans hf) |>.symm;obtain rfl:fn=Tryd.f4:=(Option.some.inj (Tryd.func4.symm.trans hfn)).symm;refine⟨by kernel_rfl,fun j t ht=>?_⟩;have hall:(Tryd.f4.params.toList.all fun t=>!Tryd.prog.wantsStandIn t)=true:=by kernel_rfl
  have:=List.all_eq_true.1 hall t (List.mem_of_getElem? (i:=j) (by rw[Array.getElem?_toList];exact ht));exact(show Tryd.prog.wantsStandIn t=false by simpa using this)

theorem card:Rows.DatabaseViewUptoCardSaid :=
  Claim7.holds_tied_plain_at .later [] _ _ _ _ said (fun _ h=>by cases h) (by kernel_rfl) (fun _ h=>by cases h) databaseViewUpto_row_tie rfl ⟨rfl,rfl⟩ (by kernel_rfl) rfl plain (by kernel_rfl)
end Go.Proofs.YtbooidfibigfcaaDoor.databaseViewUpto
