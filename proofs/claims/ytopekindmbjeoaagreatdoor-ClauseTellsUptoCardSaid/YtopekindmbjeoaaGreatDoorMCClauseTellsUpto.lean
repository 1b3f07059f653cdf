import Derived.Test.YtopekindmbjeoaaGreatDoorM7
import Derived.Test.YtopekindmbjeoaaGreatDoorM8
import Derived.Test.YtopekindmbjeoaaGreatDoorCards
import Derived.Test.YtopekindmbjeoaaGreatDoorTie
import Derived.WalkKit
import Derived.ProofKit
import Derived.OpenShut
import Derived.Deep.DeepHandedRow
import Derived.Lib.LaidIn
/- 'hornbeam/hornbeamlaw11.ClauseTells': the card, out of the run over the whole world. -/
namespace Go.Proofs.YtopekindmbjeoaaGreatDoor.clauseTellsUpto
open Go.ChangeShapes Go.WideShapes Go.ChangeAt Go.RowKit Go.Hb Go.Proofs.hq Go.Lib Go.Shelf

theorem own:ownKnob Tryz.prog.godebug=none:=by kernel_rfl
theorem out:laidOutB Tryz.prog=true:=by kernel_rfl
theorem pars:Tryz.f4.params.toList.all (fun t=>Tryz.prog.readableRec t && decide (t < Tryz.prog.types.size))=true:=by kernel_rfl

theorem z6b {H:Type}:∀ps:List (DataW H),Rows.uptoBulkAll ps=(ps.map Rows.uptoBulk).sum
  |[]=>by rw[Rows.uptoBulkAll];rfl
  |d :: r=>by rw[Rows.uptoBulkAll,z6b r,List.map_cons,List.sum_cons]
theorem wt {H:Type}:Wt (Rows.uptoBulk (H:=H)):=by
  refine⟨fun d=>?_,fun ps=>?_,fun es rest=>?_⟩
  · cases d with
    |lit l=>cases l<;>simp [Rows.uptoBulk]
    |_=>simp [Rows.uptoBulk]
  · rw[Rows.uptoBulk,z6b];exact Nat.le_refl _
  · rw[Rows.uptoBulk,z6b es];omega
theorem zs5 {W:World}(hL:laidMetH Tryz.prog Rows.clauseTellsUptoRow.laid W):Lib.Utf8Tabs (laysValid_ren.g 3) (laysValid_ren.g 4) W:=by
  have e1:Rows.laid_unicode_utf8_first=firstData:=by kernel_rfl
  have e2:Rows.laid_unicode_utf8_acceptRanges=acceptData:=by kernel_rfl
  refine utf8Tabs_of_readsT (U8Types.of196 laysValid) ⟨by kernel_rfl,by kernel_rfl,by kernel_rfl,by kernel_rfl,by kernel_rfl,by kernel_rfl,by kernel_rfl⟩ (e1 ▸ Lib.laidMet.reads hL (.tail _ (.head _))) (e2 ▸ Lib.laidMet.reads hL (.head _))
theorem zn3:TermTypes Tryz.prog 25 23 3 9 22:=⟨⟨_,Tryz.underlying25,rfl⟩,Tryz.underlying23,Tryz.underlying3,Tryz.underlying9,Tryz.underlying22,by kernel_rfl,by kernel_rfl,by kernel_rfl,by kernel_rfl,by kernel_rfl⟩
theorem zjt:BodyTypesW Tryz.prog 30 28 32 25 3:=⟨⟨_,Tryz.underlying30,rfl⟩,Tryz.underlying28,by kernel_rfl,by kernel_rfl,⟨_,Tryz.underlying32,rfl⟩,by kernel_rfl⟩

set_option maxRecDepth 100000 in
theorem zoy (H:Type) (enc:TypeId × Value→H) (W:World) (base:Nat) (args:Array Value) (ds gs:List (DataW H)) (before:List MemPlace)
    (hval:∀(j:Nat) t v,Tryz.f4.params[j]?=some t→args[j]?=some v→Value.okWide Tryz.prog W .any base t v)
    (hW:DataW.Whole enc Tryz.prog Tryz.f4.params.toList Rows.clauseTellsSpec.vars false W args.toList ds gs before) (hk:Rows.uptoSmall H (ds++gs)=true) (hT:Lib.Utf8Tabs (laysValid_ren.g 3) (laysValid_ren.g 4) W) :
    Calls Tryz.prog 4 args W fun e W'=>∃v,e=.returned v∧Rows.clauseTellsSpec.post enc Tryz.prog Tryz.f4 false true false false W args v W':=by
  refine zfm out pars rfl rfl Tryz.underlying4 (fun ds hd=>by
    have hd':ds.length=1:=hd
    match ds,hd' with
    |[_],_=>exact⟨rfl,rfl,rfl⟩) hW (zkr (mask:=2 ^ 151 - 1) (fa:=5) (fv:=94) zqg zqh zjr (fun s w hs hB=>zjs hT rfl s w hs hB) ?_)
  obtain⟨p,q,hA,_⟩:=hW;obtain⟨v,d,rfl,rfl,fuel,ht⟩:=trodAll_one hA;have hv:=hval 0 32 v rfl rfl;unfold Value.okWide at hv;rw[Tryz.underlying32] at hv;obtain⟨cs,rfl,-⟩:=hv;obtain⟨t,hr,hw1,hw2⟩:=ztk zn3 zjt wt _ _ _ _ ht;obtain⟨cs⟩:=cs;have h2:Rows.uptoBulkAll ([d]++gs)≤1048576:=of_decide_eq_true hk;have h3:Rows.uptoBulkAll ([d]++gs)=Rows.uptoBulk d+Rows.uptoBulkAll gs:=by rw[List.singleton_append,Rows.uptoBulkAll]
  exact zab hr (zn0 (n:=1000000) _ _ (Nat.lt_succ_self _) (by omega)) ((zmz (n:=1000000) _ _ (Nat.lt_succ_self _) (by omega))) znh

/-- a witness: zeros, and the tables as they are laid -/
noncomputable def zeros:Array Value:=Tryz.f4.params.map fun t=>((Tryz.prog.info? t).bind (·.zero)).getD undef
noncomputable def laidWorld (os:Os):World :=
  let w0:=World.holding Tryz.prog os ⟨#[],#[],[]⟩;let put (h:Array Obj) (g:Nat) (cs:Array Value):Array Obj:=h.modify g fun
    |.cells _ t frozen=>.cells cs t frozen
    |o=>o
  let h0:=put w0.heap 1 (([128,191,160,191,128,159,144,191,128,143,0,0,0,0,0,0,0,0,0,0,0,0,0,0,0,0,0,0,0,0,0,0]:List Int).map fun z=>Value.int .u8 z).toArray;let h1:=put h0 0 (Pinned.utf8FirstZ.map fun (z:Nat)=>Value.int .u8 z).toArray
  { w0 with heap:=h1 }
theorem zoz (os:Os) (args:Array Value):laidMet Tryz.prog Rows.clauseTellsUptoRow.laid ((laidWorld os).forCall (fun _ _=>0) ⟨#[],args,[]⟩).memory :=
  (LaidIn.of_run (l:=Rows.clauseTellsUptoRow.laid) [1,0] 8 (by kernel_rfl) (by kernel_rfl) (by kernel_rfl) (by kernel_rfl)).met
theorem reads (os:Os) {H:Type}(enc:TypeId × Value→H):(DataW.whole enc Tryz.prog ((laidWorld os).forCall (fun _ _=>0) ⟨#[],zeros,[]⟩).memory Tryz.f4.params.toList Rows.clauseTellsSpec.vars false zeros.toList 8).isSome=true:=by kernel_rfl
theorem zug (os:Os) {H:Type}(enc:TypeId × Value→H):(DataW.whole enc Tryz.prog ((laidWorld os).forCall (fun _ _=>0) ⟨#[],zeros,[]⟩).memory Tryz.f4.params.toList Rows.clauseTellsSpec.vars false zeros.toList 8).map (fun x=>Rows.uptoSmall H (x.1++x.2.1))=some true:=by kernel_rfl

set_option maxRecDepth 100000 in
theorem ztl (os:Os) (started:os.Started) (H:Type) (enc:TypeId × Value→H) (F:Stop.Interp) :
    ReturnsInHanded {} Tryz.checked os 4 .any ((Rows.OpenSpec.upto Rows.clauseTellsSpec).preRow enc Tryz.prog Tryz.f4 Rows.clauseTellsUptoRow.domain false Rows.clauseTellsUptoRow.laid) (((Rows.OpenSpec.upto Rows.clauseTellsSpec).at F).post enc Tryz.prog Tryz.f4 false true false false):=by
  obtain⟨x,hx⟩:=Option.isSome_iff_exists.1 (reads os enc);have hsm:Rows.uptoSmall H (x.1++x.2.1)=true:=by
    have h:=zug os enc;rw[hx] at h;exact Option.some.inj h
  refine returnsInHanded_of_row (C:=Tryz.checked) (s:=Rows.OpenSpec.upto Rows.clauseTellsSpec) own started (by kernel_rfl) Tryz.func4
    (witness_row_at (enc:=enc) (C:=Tryz.checked) false (laidWorld os) zeros rfl (by kernel_rfl) (by kernel_rfl) (by kernel_rfl)
      (OpenSpec.preRow_of_cond 8 hx rfl (fun k hk=>by
        obtain rfl:Rows.uptoSmall=k:=Option.some.inj hk;exact hsm) (by kernel_rfl) (zoz os _))) ?_
  intro W base args ds gs before hval hW _ hk _ hL _ _;exact zoy H enc W base args ds gs before hval hW (hk _ rfl) (zs5 hL)

theorem said:Rows.ClauseTellsUptoSaid :=
  OpenClaim.holds_of_cond 4 Tryz.f4 rfl rfl rfl rfl rfl rfl rfl ⟨rfl,rfl,rfl,rfl,rfl⟩ rfl rfl rfl rfl rfl (by kernel_rfl) Tryz.func4 (by kernel_rfl)
    (of_decide_eq_true (by kernel_rfl)) (by unfold Func.isWrapper;first|(rw[if_pos (by decide +kernel)];kernel_rfl)|(rw[if_neg (by decide +kernel)];exact⟨rfl,rfl⟩))
    (fun os started H enc _ F=>by rw[OpenClaim.pre_eq_preRow];exact ztl os started H enc F)

theorem plain (f:FuncId) (fn:Func) (hf:Tryz.pinned.checked.prog.funcNamed "hornbeam/hornbeamlaw11.ClauseTells" = some f) (hfn:Tryz.pinned.checked.prog.funcs[f]?=some fn) :
    true=Tryz.pinned.checked.prog.looks []∧∀(j:Nat) t,fn.params[j]?=some t→Tryz.pinned.checked.prog.wantsStandIn t=false:=by
  obtain rfl:f=4:=Option.some.inj ((show Tryz.prog.funcNamed "hornbeam/hornbeamlaw11.ClauseTells" = some 4 by kernel_rfl).symm.trans hf) |>.symm;obtain rfl:fn=Tryz.f4:=(Option.some.inj (Tryz.func4.symm.trans hfn)).symm;refine⟨by kernel_rfl,fun j t ht=>?_⟩;have hall:(Tryz.f4.params.toList.all fun t=>!Tryz.prog.wantsStandIn t)=true:=by kernel_rfl
  have:=List.all_eq_true.1 hall t (List.mem_of_getElem? (i:=j) (by rw[Array.getElem?_toList];exact ht));exact(show Tryz.prog.wantsStandIn t=false by simpa using this)

theorem card:Rows.ClauseTellsUptoCardSaid :=
  Claim7.holds_tied_plain_at .later [] _ _ _ _ said (fun _ h=>by cases h) (by kernel_rfl) (fun _ h=>by cases h) clauseTellsUpto_row_tie rfl ⟨rfl,rfl⟩ (by kernel_rfl) rfl plain (by kernel_rfl)
end Go.Proofs.YtopekindmbjeoaaGreatDoor.clauseTellsUpto
