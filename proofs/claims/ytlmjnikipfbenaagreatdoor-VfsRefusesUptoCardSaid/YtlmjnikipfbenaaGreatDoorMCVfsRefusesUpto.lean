import Derived.Test.YtlmjnikipfbenaaGreatDoorM7
import Derived.Test.YtlmjnikipfbenaaGreatDoorM9
import Derived.Test.YtlmjnikipfbenaaGreatDoorCards
import Derived.Test.YtlmjnikipfbenaaGreatDoorTie
import Derived.WalkKit
import Derived.ProofKit
import Derived.OpenShut
import Derived.Deep.DeepHandedRow
import Derived.Lib.LaidIn
/- 'hornbeam/hornbeamlaw08.VfsRefuses': the card, out of the run over the whole world. -/
namespace Go.Proofs.YtlmjnikipfbenaaGreatDoor.vfsRefusesUpto
open Go.ChangeShapes Go.WideShapes Go.ChangeAt Go.RowKit Go.Hb Go.Proofs.hq Go.Lib Go.Shelf

theorem own:ownKnob Tryz.prog.godebug=none:=by kernel_rfl
theorem out:laidOutB Tryz.prog=true:=by kernel_rfl
theorem pars:Tryz.f4.params.toList.all (fun t=>Tryz.prog.readableRec t && decide (t < Tryz.prog.types.size))=true:=by kernel_rfl

theorem z60 {H:Type}:∀ps:List (DataW H),Rows.uptoBulkAll ps=(ps.map Rows.uptoBulk).sum
  |[]=>by rw[Rows.uptoBulkAll];rfl
  |d :: r=>by rw[Rows.uptoBulkAll,z60 r,List.map_cons,List.sum_cons]
theorem wS {H:Type}:∀(es rest:List (DataW H)),(es.map Rows.uptoBulk).sum≤Rows.uptoBulk (.slice es rest):=fun es rest=>by rw[Rows.uptoBulk,z60 es];omega
theorem wL {H:Type}:∀b:List UInt8,b.length≤Rows.uptoBulk (.lit (.string b):DataW H):=fun b=>by simp [Rows.uptoBulk]
theorem wA {H:Type}:∀es:List (DataW H),(es.map Rows.uptoBulk).sum≤Rows.uptoBulk (.agg es):=fun es=>by rw[Rows.uptoBulk,z60 es];omega
theorem zp5 {W:World}(hL:laidMetH Tryz.prog Rows.vfsRefusesUptoRow.laid W):TabsF W:=by
  have e1:Rows.laid_unicode_utf8_first=firstData:=by kernel_rfl
  have e2:Rows.laid_unicode_utf8_acceptRanges=acceptData:=by kernel_rfl
  have e3:(Rows.laid_internal_strconv_uint64pow10:DataW Unit)=Lib.tabData .u64 Lib.pow10Tab:=by kernel_rfl
  refine⟨?_,zqv (e3 ▸ Lib.laidMet.reads hL (.tail _ (.tail _ (.head _))))⟩;refine utf8Tabs_of_readsT (U8Types.of196 laysValid) ⟨by kernel_rfl,by kernel_rfl,by kernel_rfl,by kernel_rfl,by kernel_rfl,by kernel_rfl,by kernel_rfl⟩ (e1 ▸ Lib.laidMet.reads hL (.tail _ (.tail _ (.tail _ (.tail _ (.head _)))))) (e2 ▸ Lib.laidMet.reads hL (.tail _ (.tail _ (.tail _ (.head _)))))

set_option maxRecDepth 100000 in
theorem zmq (H:Type) (enc:TypeId × Value→H) (W:World) (base:Nat) (args:Array Value) (ds gs:List (DataW H)) (before:List MemPlace)
    (hval:∀(j:Nat) t v,Tryz.f4.params[j]?=some t→args[j]?=some v→Value.okWide Tryz.prog W .any base t v)
    (hW:DataW.Whole enc Tryz.prog Tryz.f4.params.toList Rows.vfsRefusesSpec.vars false W args.toList ds gs before) (hk:Rows.uptoSmall H (ds++gs)=true) (hT:TabsF W) :
    Calls Tryz.prog 4 args W fun e W'=>∃v,e=.returned v∧Rows.vfsRefusesSpec.post enc Tryz.prog Tryz.f4 false true false false W args v W':=by
  refine zdz out pars rfl rfl Tryz.underlying4 (fun ds hd=>by
    have hd':ds.length=4:=hd
    match ds,hd' with
    |[_,_,_,_],_=>exact⟨rfl,rfl,rfl⟩) hW (zmp hT ?_)
  obtain⟨p,q,hA,_⟩:=hW;obtain⟨v,vs,d,ds1,p1,q1,hargs,rfl,rfl,⟨fuel,ht⟩,hrest⟩:=trodAll_cons hA;obtain⟨v',vs',d',ds2,p2,q2,rfl,rfl,rfl,-,hrest⟩:=trodAll_cons hrest;obtain⟨v2,vs2,d2,ds3,p3,q3,rfl,rfl,rfl,⟨fuel2,ht2⟩,hrest⟩:=trodAll_cons hrest;obtain⟨v3,vs3,d3,ds4,p4,q4,rfl,rfl,rfl,⟨fuel3,ht3⟩,hrest⟩:=trodAll_cons hrest;obtain⟨rfl,rfl,rfl⟩:=trodAll_nil hrest;obtain rfl:args=#[v,v',v2,v3]:=by cases args;simp_all
  have hv:=hval 0 22 v rfl rfl;have hv2:=hval 2 23 v2 rfl rfl;obtain⟨L,a,c,he,hr⟩:=zkt Tryz.underlying22 Tryz.underlying73 rfl (by kernel_rfl) Tryz.underlying9 (by kernel_rfl) wS ht (fun cs e=>by
    subst e;unfold Value.okWide at hv;rw[Tryz.underlying22] at hv;simp [Cell.okWide,Cell.ok,Tryz.underlying22] at hv)
  obtain⟨L2,a2,c2,he2,hr2,hg2⟩:=zku Tryz.underlying23 Tryz.underlying36 rfl Tryz.underlying34 rfl (by kernel_rfl) (by kernel_rfl) Tryz.underlying9 (by kernel_rfl) Tryz.underlying3 (by kernel_rfl) Tryz.underlying4 (by kernel_rfl) wS wA wL ht2 (fun cs e=>by
    subst e;unfold Value.okWide at hv2;rw[Tryz.underlying23] at hv2;simp [Cell.okWide,Cell.ok,Tryz.underlying23] at hv2)
  have hv3:=hval 3 36 v3 rfl rfl;unfold Value.okWide at hv3;rw[Tryz.underlying36] at hv3;obtain⟨cs3,rfl,-⟩:=hv3;obtain⟨cs3⟩:=cs3;obtain⟨xc,he3,hg3⟩:=zmm (w:=Rows.uptoBulk) Tryz.underlying36 rfl Tryz.underlying34 rfl (by kernel_rfl) (by kernel_rfl) Tryz.underlying9 (by kernel_rfl) Tryz.underlying3 (by kernel_rfl) Tryz.underlying4 (by kernel_rfl) wA wL ht3;have he3':abV Tryz.prog W (.agg ⟨cs3⟩)=.agg ⟨xc.row⟩:=he3;have hs:∃s:ByteArray,v'=.string s:=by
    have h:=hval 1 9 v' rfl rfl;unfold Value.okWide at h;rw[Tryz.underlying9] at h;cases v' with
    |string s=>exact⟨s,rfl⟩
    |_=>simp [Cell.okWide,Cell.ok,Tryz.underlying9] at h
  obtain⟨s,rfl⟩:=hs;have h2:Rows.uptoBulkAll ([d,d',d2,d3]++gs)≤1048576:=of_decide_eq_true hk;have h3:Rows.uptoBulkAll ([d,d',d2,d3]++gs)=Rows.uptoBulk d+(Rows.uptoBulk d'+(Rows.uptoBulk d2+(Rows.uptoBulk d3+Rows.uptoBulkAll gs))):=by rw[List.cons_append,Rows.uptoBulkAll,List.cons_append,Rows.uptoBulkAll,List.cons_append,Rows.uptoBulkAll,List.cons_append,Rows.uptoBulkAll,List.nil_append]
  have hb2:abV Tryz.prog W (.string s)=.string s:=rfl;simp only[List.map_cons,List.map_nil,he,he2,he3',hb2];exact zbp hr hr2 (fun x hx=>by
    have g:=hg2 x hx;have g1:=g.nm;have g2:=g.al;exact⟨g.id,g.nn,by omega,by omega⟩) (by
    have g1:=hg3.nm;have g2:=hg3.al;exact⟨hg3.id,hg3.nn,by omega,by omega⟩) zld

/-- a witness: zeros, and the tables as they are laid -/
noncomputable def zeros:Array Value:=Tryz.f4.params.map fun t=>((Tryz.prog.info? t).bind (·.zero)).getD undef
noncomputable def laidWorld (os:Os):World :=
  let w0:=World.holding Tryz.prog os ⟨#[],#[],[]⟩;let put (h:Array Obj) (g:Nat) (cs:Array Value):Array Obj:=h.modify g fun
    |.cells _ t frozen=>.cells cs t frozen
    |o=>o
  let h0:=put w0.heap 4 (([0,1,28,2,29,14,24,3,30,22,20,15,25,17,4,8,31,27,13,23,21,19,16,7,26,12,18,6,11,5,10,9]:List Int).map fun z=>Value.int .u8 z).toArray;let h1:=put h0 5 (([0,1,56,2,57,49,28,3,61,58,42,50,38,29,17,4,62,47,59,36,45,43,51,22,53,39,33,30,24,18,12,5,63,55,48,27,60,41,37,16,46,35,44,21,52,32,23,11,54,26,40,15,34,20,31,10,25,14,19,9,13,8,7,6]:List Int).map fun z=>Value.int .u8 z).toArray;let h2:=put h1 3 (([1,10,100,1000,10000,100000,1000000,10000000,100000000,1000000000,10000000000,100000000000,1000000000000,10000000000000,100000000000000,1000000000000000,10000000000000000,100000000000000000,1000000000000000000,10000000000000000000]:List Int).map fun z=>Value.int .u64 z).toArray;let h3:=put h2 1 (([128,191,160,191,128,159,144,191,128,143,0,0,0,0,0,0,0,0,0,0,0,0,0,0,0,0,0,0,0,0,0,0]:List Int).map fun z=>Value.int .u8 z).toArray;let h4:=put h3 0 (Pinned.utf8FirstZ.map fun (z:Nat)=>Value.int .u8 z).toArray
  { w0 with heap:=h4 }
theorem zmr (os:Os) (args:Array Value):laidMet Tryz.prog Rows.vfsRefusesUptoRow.laid ((laidWorld os).forCall (fun _ _=>0) ⟨#[],args,[]⟩).memory :=
  (LaidIn.of_run (l:=Rows.vfsRefusesUptoRow.laid) [4,5,3,1,0] 8 (by kernel_rfl) (by kernel_rfl) (by kernel_rfl) (by kernel_rfl)).met
theorem reads (os:Os) {H:Type}(enc:TypeId × Value→H):(DataW.whole enc Tryz.prog ((laidWorld os).forCall (fun _ _=>0) ⟨#[],zeros,[]⟩).memory Tryz.f4.params.toList Rows.vfsRefusesSpec.vars false zeros.toList 8).isSome=true:=by kernel_rfl
theorem zqw (os:Os) {H:Type}(enc:TypeId × Value→H):(DataW.whole enc Tryz.prog ((laidWorld os).forCall (fun _ _=>0) ⟨#[],zeros,[]⟩).memory Tryz.f4.params.toList Rows.vfsRefusesSpec.vars false zeros.toList 8).map (fun x=>Rows.uptoSmall H (x.1++x.2.1))=some true:=by kernel_rfl

set_option maxRecDepth 100000 in
theorem zqd (os:Os) (started:os.Started) (H:Type) (enc:TypeId × Value→H) (F:Stop.Interp) :
    ReturnsInHanded {} Tryz.checked os 4 .any ((Rows.OpenSpec.upto Rows.vfsRefusesSpec).preRow enc Tryz.prog Tryz.f4 Rows.vfsRefusesUptoRow.domain false Rows.vfsRefusesUptoRow.laid) (((Rows.OpenSpec.upto Rows.vfsRefusesSpec).at F).post enc Tryz.prog Tryz.f4 false true false false):=by
  obtain⟨x,hx⟩:=Option.isSome_iff_exists.1 (reads os enc);have hsm:Rows.uptoSmall H (x.1++x.2.1)=true:=by
    have h:=zqw os enc;rw[hx] at h;exact Option.some.inj h
  refine returnsInHanded_of_row (C:=Tryz.checked) (s:=Rows.OpenSpec.upto Rows.vfsRefusesSpec) own started (by kernel_rfl) Tryz.func4
    (witness_row_at (enc:=enc) (C:=Tryz.checked) false (laidWorld os) zeros rfl (by kernel_rfl) (by kernel_rfl) (by kernel_rfl)
      (OpenSpec.preRow_of_cond 8 hx rfl (fun k hk=>by
        obtain rfl:Rows.uptoSmall=k:=Option.some.inj hk;exact hsm) (by kernel_rfl) (zmr os _))) ?_
  intro W base args ds gs before hval hW _ hk _ hL _ _;exact zmq H enc W base args ds gs before hval hW (hk _ rfl) (zp5 hL)

theorem said:Rows.VfsRefusesUptoSaid :=
  OpenClaim.holds_of_cond 4 Tryz.f4 rfl rfl rfl rfl rfl rfl rfl ⟨rfl,rfl,rfl,rfl,rfl⟩ rfl rfl rfl rfl rfl (by kernel_rfl) Tryz.func4 (by kernel_rfl)
    (of_decide_eq_true (by kernel_rfl)) (by unfold Func.isWrapper;first|(rw[if_pos (by decide +kernel)];kernel_rfl)|(rw[if_neg (by decide +kernel)];exact⟨rfl,rfl⟩))
    (fun os started H enc _ F=>by rw[OpenClaim.pre_eq_preRow];exact zqd os started H enc F)

theorem plain (f:FuncId) (fn:Func) (hf:Tryz.pinned.checked.prog.funcNamed "hornbeam/hornbeamlaw08.VfsRefuses" = some f) (hfn:Tryz.pinned.checked.prog.funcs[f]?=some fn) :
    true=Tryz.pinned.checked.prog.looks []∧∀(j:Nat) t,fn.params[j]?=some t→Tryz.pinned.checked.prog.wantsStandIn t=false:=by
  obtain rfl:f=4:=Option.some.inj ((show Tryz.prog.funcNamed "hornbeam/hornbeamlaw08.VfsRefuses" = some 4 by kernel_rfl).symm.trans hf) |>.symm;obtain rfl:fn=Tryz.f4:=(Option.some.inj (Tryz.func4.symm.trans hfn)).symm;refine⟨by kernel_rfl,fun j t ht=>?_⟩;have hall:(Tryz.f4.params.toList.all fun t=>!Tryz.prog.wantsStandIn t)=true:=by kernel_rfl
  have:=List.all_eq_true.1 hall t (List.mem_of_getElem? (i:=j) (by rw[Array.getElem?_toList];exact ht));exact(show Tryz.prog.wantsStandIn t=false by simpa using this)

theorem card:Rows.VfsRefusesUptoCardSaid :=
  Claim7.holds_tied_plain_at .later [] _ _ _ _ said (fun _ h=>by cases h) (by kernel_rfl) (fun _ h=>by cases h) vfsRefusesUpto_row_tie rfl ⟨rfl,rfl⟩ (by kernel_rfl) rfl plain (by kernel_rfl)
end Go.Proofs.YtlmjnikipfbenaaGreatDoor.vfsRefusesUpto
