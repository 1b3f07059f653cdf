import Derived.Test.YtopekindmbjeoaaGreatDoorM3
import Derived.Test.YtopekindmbjeoaaGreatDoorM5
import Derived.Test.YtopekindmbjeoaaGreatDoorM4
/- Lemmas on the program's own code, towards the laws of this folder, part 6. Conditions: as each lemma says. -/
open Bool renaming false_eq_true → Zd, not_false → Zt, not_true → Zp
open ByteArray renaming empty → Ze
open Int renaming reduceToNat → Zv
open List renaming cons_append → ZK, drop_eq_getElem_cons → ZB, getElem?_eq_getElem → Zc, getElem_mem → Zx, length_append → Zw, length_map → Zq, length_take → Zl, map_append → ZD, map_cons → ZC, mem_cons_of_mem → Zn, take_append_getElem → ZA, take_of_length_le → Zi
open Nat renaming beq_eq → Zr, le_refl → Zg, le_trans → Zo, lt_of_lt_of_le → Zh, lt_succ_self → Zf, one_mul → ZL, reduceAdd → Zb, reduceEqDiff → Za, reduceLeDiff → Zk, zero_le → Zs, zero_mul → Zu
section
namespace Go.Hb
open Go Go.RowKit
theorem z74 {P:Program}{ok:Ok}{fn:Func}{tm:Tr Value}{H:Heap}{K:Value→Heap→Prop}{a b:Tmp}{t t':TypeId}{ad bd:Addr}{v u:Value}(h:fn.results.toList=[.cell a t,.cell b t']) (ha:tm.get a=some (.pointer (some ad))) (hv:dLoad P t (.pointer (some ad)) H=some (.val v H))
  (hb:tm.get b=some (.pointer (some bd))) (hu:dLoad P t' (.pointer (some bd)) H=some (.val u H)) (hk:K (.tuple ⟨[v,u]⟩) H):EvM P ok fn tm [] none H K:=by
 refine EvM.now (v:=.tuple ⟨[v,u]⟩) ?_ hk;have key:∀{t:TypeId}{ad:Addr}{v:Value},dLoad P t (.pointer (some ad)) H=some (.val v H)→dload P t ad H=some v:=fun {t ad v} hd=>by
  unfold dLoad at hd;simp only at hd;cases h1:dload P t ad H with
  |none=>rw[h1] at hd;simp at hd
  |some w=>rw[h1] at hd;simp at hd;rw[hd]
 simp [dres,h,dresL,dres1,ha,hb,key hv,key hu]
end Go.Hb
namespace Go.Proofs.hq
open Go Go.RowKit Go.Hb
variable {ok:Ok}
set_option maxRecDepth 10000
attribute [local irreducible] LX LG EL STG SOP SGO SGD SAL SRD SEF SEG SLK SCK ES
theorem zcn {n:Nat}:Few n zeroT:=.mk (Zs _) fun u hu=>by cases hu
theorem zi2 {t:Tm}(h:Few 64 t):Few 64 (cmpT sCall [t]):=.mk (by show 1≤64;decide) fun u hu=>by
 have:u=t:=by simpa [cmpT,Tm.args] using hu
 rw[this];exact h
theorem z8j {t:Tm}(h:Fine t):Few 64 t:=Fine.few _ (Zf _) h
theorem FewB.leaf {n:Nat}{k:Int}{t:Tm}(h:Few n t):FewB n (.mk k t []):=.mk (Zs _) h fun u hu=>by cases hu
theorem zes {f:Tm→Option Bdy}{n:Nat}:∀{l:List Tm}{bs:List Bdy},(∀t∈l,∀b,f t=some b→FewB n b)→subBL f l=some bs→∀b∈bs,FewB n b
 |[],bs,_,h=>by cases h;intro b hb;cases hb
 |u :: l,bs,hf,h=>by
  rw[subBL] at h;split at h
  ·rename_i c cs h1 h2;cases h;intro b hb;rcases List.mem_cons.1 hb with rfl|hb
   ·exact hf u (by simp) _ h1
   ·exact zes (fun t ht=>hf t (Zn _ ht)) h2 b hb
  ·cases h
theorem z75 {f:Tm→Option Bdy}{n:Nat}{k:Int}{l:List Tm}{b:Bdy}(hl:l.length≤n) (hf:∀t∈l,∀b,f t=some b→FewB n b) (h:subBF f k l=some b):FewB n b:=by
 unfold subBF at h;cases hs:subBL f l with
 |none=>rw[hs] at h;cases h
 |some bs =>
  rw[hs] at h;cases h;exact .mk (by show bs.length≤n;rw[zi1 hs];exact hl) zcn (zes hf hs)
theorem zb5 {t:Tm}{i:Nat}(h:i < t.args.length):t.at i∈t.args:=by
 unfold Tm.at;rw[List.getD_eq_getElem?_getD,Zc h];exact Zx h
theorem z54:∀{m:Nat}{t:Tm}{b:Bdy},Fine t→bodyF m t=some b→FewB 64 b
 |0,t,b,_,h=>by cases h
 |m+1,t,b,hf,h=>by
  have ih:∀u,Fine u→∀b,bodyF m u=some b→FewB 64 b:=fun u hu b hb=>z54 hu hb
  have hl:=z4g hf;have hargs:∀u∈t.args,∀b,bodyF m u=some b→FewB 64 b:=fun u hu=>ih u (hf.args u hu)
  rw[bodyF] at h;split at h
  ·cases h
  split at h
  ·cases h;exact .leaf (zi2 (z8j hf))
  split at h
  ·cases h;exact .leaf zcn
  split at h
  ·cases h;exact .leaf zcn
  split at h
  ·rename_i hF;unfold withinF at h;split at h
   ·cases h
   split at h
   ·cases h;exact .leaf (zi2 (z8j hf))
   cases hb:bodyF m (t.at 1) with
   |none=>rw[hb] at h;cases h
   |some c =>
    rw[hb] at h;cases h;refine .mk (by show 1≤64;decide) (z8j (hf.args _ (zb5 (by rw[hF.2.2];decide)))) fun u hu=>?_
    have:u=c:=by simpa [Bdy.sub] using hu
    subst this;exact hargs _ (zb5 (by rw[hF.2.2];decide)) _ hb
  split at h
  ·exact z75 hl hargs h
  split at h
  ·exact z75 hl hargs h
  split at h
  ·rename_i hF;have hx:=hf.args _ (zb5 (i:=0) (by rw[hF.1.2.2];decide));refine z75 (by show 3≤64;decide) (fun u hu=>?_) h;have hu':u∈(t.at 0).args∨u∈t.args:=by
    simp only[List.mem_cons,List.not_mem_nil,or_false] at hu;rcases hu with rfl|rfl|rfl
    ·exact .inl (zb5 (by rw[hF.2.2.2];decide))
    ·exact .inl (zb5 (by rw[hF.2.2.2];decide))
    ·exact .inr (zb5 (by rw[hF.1.2.2];decide))
   rcases hu' with hu|hu
   ·exact ih u (hx.args u hu)
   ·exact hargs u hu
  split at h
  ·exact z75 hl hargs h
  ·cases h;exact .leaf (z8j hf)
theorem FewB.up {n m:Nat}{b:Bdy}(f:FewB n b) (h:n≤m):FewB m b:=by
 induction f with
 |mk h1 h2 _ ih=>exact .mk (Zo h1 h) (h2.up h) ih
def ReadyEnd (H:Heap) (t:Tm) (v:Value) (H':Heap):Prop:=HX H H'∧∃out ev,v=.tuple ⟨[.agg ⟨out⟩,ev]⟩∧OB H' 30 25 (Rg H.next H'.next) (readyS t).1 out∧RepES H' (Rg H.next H'.next) (readyS t).2 ev
set_option maxHeartbeats 16000000 in
theorem z9v {t:Tm}{cs:List Value}{H:Heap}(r0:RepT H t cs) (hw:H.wf):EvF Tryz.prog okT 26 [.agg ⟨cs⟩] H (ReadyEnd H t):=by
 obtain⟨a,c,cells,rfl,-⟩:=r0.six;refine EvF.enterM rfl Tryz.func26 (by decide) rfl ?_;(repeat refine EvC.seq ?_);refine EvC.reg ?_;simp only[sB,initTm,dBox,dAlloc,Value.cells,one,zr30,zr34];obtain⟨H2,e2,hx2,gt,gb,ge,hn2,hw2⟩:=zlm hw (.row (six t a c) 25) (.row zero8 30) (.row [.nilIface] 34);simp only[e2];clear e2;have ge:H2.get (H.next+1+1)=some (.row [.nilIface] 34):=ge;have qt:=row6 gt;have hlt:=hw2 _ _ ge;(repeat refine EvC.seq ?_);refine EvC.reg ?_;simp only[sB,Za,reduceCtorEq,ld25,cl29,qt];refine(z2s t _ _ (r0.mono hx2 hw) hw2).mono ?_;rintro v H3 ⟨rfl,hx3⟩;have gt3:=hx3.get hw2 gt;have gb3:=hx3.get hw2 gb;have ge3:=hx3.get hw2 ge;have hx:=hx2.trans hx3;have n3:=hx3.next;have hww:=hx.wf;have qb3:=row8 gb3;have qt3:=row6 gt3;have ne1:(H.next+2=H.next+1)=False:=by simp
 by_cases h0:checkS t=0;rotate_left
 ·repeat' (first|refine EvC.seq ?_|(refine EvC.ret ?_;try simp only[z04,z02])|(refine EvC.reg ?_;simp only[sB,Za,Zb,one,reduceCtorEq,ld30,st30,st34,z1j h0,gb3,ge3,qb3,z1c,z9s zm9,ne1])|(refine EvC.condT ?_ ?_;simp only[sB,Za,reduceCtorEq];refine z07 ?_))
  have hrs:readyS t=(zeroB,.num (checkS t)):=by unfold readyS;rw[if_pos h0]
  refine z74 rfl (by simp only[sB,Za,reduceCtorEq];rfl) (by simp only[sB,Zb,cutC,ld30,neu];rfl) (by simp only[sB,Za,reduceCtorEq];rfl) (by simp only[sB,Za,cutC,ld34];rfl) ⟨(hx.pt (by omega) gb3 _).pt (i:=H.next+1+1) (by omega) (by rw[get_put,if_neg (by omega)];exact ge3) _,_,_,rfl,?_,?_⟩
  ·rw[hrs];exact OB.nil (by decide)
  ·rw[hrs];exact RepES.num
 (repeat refine EvC.seq ?_);refine EvC.reg ?_;simp only[sB,Za,reduceCtorEq,z0z h0];refine EvC.condF (by simp only[sB,Za,reduceCtorEq]) ?_;(try refine EvC.skip ?_);(try simp only[z00,z01]);(repeat refine EvC.seq ?_);refine EvC.reg ?_;simp only[sB,Za,reduceCtorEq,List.map_toArray,zji,zm6,zt8];have hlt3:=hww _ _ ge3;cases ho:bodyF (SizeOf.sizeOf t+1) t with
 |none =>
  have hrs:readyS t=(zeroB,.ball (typeT sCallable t)):=by unfold readyS;rw[if_neg (fun h=>h h0),ho]
  (repeat refine EvC.seq ?_);refine EvC.regP 1 _ rfl rfl ?_;simp only[sB,Za,reduceCtorEq,ld25,cl62,z7o,qt3];refine EvG.toP (zck _ (Zf _) (r0.mono hx hw) h0 hww) ?_;rintro e H5 ⟨hx5,he⟩;rw[ho] at he;refine⟨_,he,?_⟩;have hxf:=hx.trans hx5;have n5:=hx5.next;have gb5:=hx5.get hww gb3;have ge5:=hx5.get hww ge3;refine zme (H:=H5) (cs8:=zero8) rfl (r0.mono hxf hw) h0 (hx5.get hww gt3) gb5 ge5 (by omega) (fun H6 ev hx6 he6=>?_) hxf.wf;have gb6:=hx6.get hxf.wf gb5;have ge6:=hx6.get hxf.wf ge5;have n6:=hx6.next;have hx16:=hxf.trans hx6;refine z74 rfl (by simp only[sB,Za,reduceCtorEq];rfl) (by simp only[sB,Zb,cutC,ld30,neu];rfl) (by simp only[sB,Za,reduceCtorEq];rfl) (by simp only[sB,Za,cutC,ld34];rfl) ⟨(hx16.pt (by omega) gb6 _).pt (i:=H.next+1+1) (by omega) (by rw[get_put,if_neg (by omega)];exact ge6) _,_,_,rfl,?_,?_⟩
  ·rw[hrs];exact OB.nil (by decide)
  ·rw[hrs];refine he6.to fun n hn hl=>?_
   have:=hn.1;exact⟨by rw[get_put,if_neg (by omega),get_put,if_neg (by omega)],⟨by omega,by rw[z06,z06];exact hl⟩,by rw[z06,z06];exact hl⟩
 |some bd =>
  (repeat refine EvC.seq ?_);refine EvC.reg ?_;simp only[sB,Za,reduceCtorEq,ld25,cl62,qt3];refine EvG.toF (zck _ (Zf _) (r0.mono hx hw) h0 hww) ?_;rintro e H5 ⟨hx5,he⟩;rw[ho] at he;obtain⟨out,rfl,hob⟩:=he;refine⟨_,rfl,?_⟩;obtain⟨ta,tc,sa,sc,rfl⟩:=hob.rep.eight;have hxf:=hx.trans hx5;have n5:=hx5.next;have gb5:=hx5.get hww gb3;have ge5:=hx5.get hww ge3;try simp only[sB,Zb,one,st30,gb5]
  obtain⟨H6,e6⟩:∃H6,H5.put (H.next+1) (some (.row (eightT bd.kind bd.term ta tc sa bd.sub.length sc) 30))=H6:=⟨_,rfl⟩
  simp only[e6];have hx6:HX H H6:=by rw[←e6];exact hxf.pt (by omega) gb5 _
  have n6:H6.next=H5.next:=by rw[←e6];rfl
  have gb6:H6.get (H.next+1)=some (.row (eightT bd.kind bd.term ta tc sa bd.sub.length sc) 30):=by rw[←e6,get_put,if_pos rfl]
  have ge6:H6.get (H.next+1+1)=some (.row [.nilIface] 34):=by rw[←e6,get_put,if_neg (by omega)];exact ge5
  have qb6:=row8 gb6;have hob6:OB H6 30 25 (Rg H3.next H5.next) bd (eightT bd.kind bd.term ta tc sa bd.sub.length sc):=hob.to (fun n hn hl=>⟨by have:=hn.1;rw[←e6,get_put,if_neg (by omega)],by omega⟩) fun _ hn=>hn
  have hfew:=(z54 (z0e.1 h0).2 ho).up (m:=1000000) (by decide);(repeat refine EvC.seq ?_);refine EvC.reg ?_;simp only[sB,Za,reduceCtorEq,ld30,cl36,cl35,qb6];refine(zcl (Zf _) hob6.bi hfew (fun n hn=>by have:=hn.2;omega) hx6.wf).mono ?_;rintro v H7 ⟨hx7,outT,rfl,hrT⟩
  skip
  refine(z1h _ _ _ hrT.rep hx7.wf).mono ?_;rintro v H8 ⟨rfl,hx8⟩;have hx68:=hx7.trans hx8;have n7:=hx7.next;have n8:=hx8.next;have gb8:=hx68.get hx6.wf gb6;have ge8:=hx68.get hx6.wf ge6;have qb8:=row8 gb8;have hx18:=hx6.trans hx68;try simp only[sA]
  by_cases h4:4000 < cnt (toldB bd) 0
  ·have hd:decide (((cnt (toldB bd) 0:Nat):Int) > 4000)=true:=by rw[z3m];exact decide_eq_true h4
   have hrs:readyS t=(zeroB,.ball (resT sNodes)):=by unfold readyS;rw[if_neg (fun h=>h h0),ho];simp only;rw[if_pos h4]
   refine EvC.condT (by simp only[sB,Za,reduceCtorEq,hd]) ?_;(try refine EvC.skip ?_);(try simp only[z00,z01]);(repeat refine EvC.seq ?_);refine EvC.reg ?_;simp only[sB,Za,Zb,Value.cells,reduceCtorEq,layC,st30,bd30,cl37];refine(zcm (s:=sNodes) (by decide) hx18.wf).mono ?_;rintro v H9 ⟨hx9,he9⟩;obtain⟨pb,ab,cb,rfl,-,-⟩:=he9.rep;have n9:=hx9.next;have gb9:=hx9.get hx18.wf gb8;have ge9:=hx9.get hx18.wf ge8
   repeat' (first|(refine EvC.ret ?_;try simp only[z04,z02])|(refine z0i ?_;simp only[sB,Za,Zb,one,reduceCtorEq,st34,gb9,ge9,ne1]))
   obtain⟨H9',e9⟩:∃H9',(H9.put (H.next+1) (some (.row zero8 30))).put (H.next+1+1) (some (.row [.iface 68 (.pointer (some ⟨pb,0,none⟩))] 34))=H9':=⟨_,rfl⟩
   have g1:H9'.get (H.next+1)=some (.row zero8 30):=by rw[←e9,get_put,if_neg (by omega),get_put,if_pos rfl]
   have g2:H9'.get (H.next+1+1)=some (.row [.iface 68 (.pointer (some ⟨pb,0,none⟩))] 34):=by rw[←e9,get_put,if_pos rfl]
   have hx9':HX H H9':=by rw[←e9];exact((hx18.trans hx9).pt (by omega) gb9 _).pt (i:=H.next+1+1) (by omega) (by rw[get_put,if_neg (by omega)];exact ge9) _
   have n9':H9'.next=H9.next:=by rw[←e9];rfl
   have he9':RepES H9' (Rg H8.next H9.next) (.ball (resT sNodes)) (.iface 68 (.pointer (some ⟨pb,0,none⟩))):=he9.to fun n hn hl=>⟨by have:=hn.1;rw[←e9,get_put,if_neg (by omega),get_put,if_neg (by omega)],hn,by omega⟩
   simp only[e9];refine zer (H:=H9') (fun H10 hx10=>?_) hx9'.wf;have g1':=hx10.get hx9'.wf g1;have q1':=row8 g1';have q2':=row1 (hx10.get hx9'.wf g2);have n10:=hx10.next;refine z74 rfl (by simp only[sB,Za,reduceCtorEq];rfl) (by simp only[sA,ld30,q1'];rfl) (by simp only[sB,Za,reduceCtorEq];rfl) (by simp only[sA,ld34,q2'];rfl) ⟨hx9'.trans hx10,_,_,rfl,?_,?_⟩
   ·rw[hrs];exact OB.nil (by decide)
   ·rw[hrs];exact he9'.to fun n hn hl=>⟨hx10.keep n hl,⟨by have:=hn.1;omega,by have:=hn.2;omega⟩,by omega⟩
  ·have hd:decide (((cnt (toldB bd) 0:Nat):Int) > 4000)=false:=by rw[z3m];exact decide_eq_false h4
   have hrs:readyS t=(bd,.ok):=by unfold readyS;rw[if_neg (fun h=>h h0),ho];simp only;rw[if_neg h4]
   refine EvC.condF (by simp only[sB,Za,reduceCtorEq,hd]) ?_;(try refine EvC.skip ?_);(try simp only[z00,z01])
   repeat' (first|refine EvC.seq ?_|(refine EvC.ret ?_)|(refine EvC.reg ?_;simp only[sB,Za,Zb,one,reduceCtorEq,ld30,st30,ztm,gb8,ge8,qb8,ne1]))
   obtain⟨H9',e9⟩:∃H9',(H8.put (H.next+1) (some (.row (eightT bd.kind bd.term ta tc sa bd.sub.length sc) 30))).put (H.next+1+1) (some (.row [.nilIface] 34))=H9':=⟨_,rfl⟩
   have g1:H9'.get (H.next+1)=some (.row (eightT bd.kind bd.term ta tc sa bd.sub.length sc) 30):=by rw[←e9,get_put,if_neg (by omega),get_put,if_pos rfl]
   have g2:H9'.get (H.next+1+1)=some (.row [.nilIface] 34):=by rw[←e9,get_put,if_pos rfl]
   have hx9':HX H H9':=by rw[←e9];exact(hx18.pt (by omega) gb8 _).pt (i:=H.next+1+1) (by omega) (by rw[get_put,if_neg (by omega)];exact ge8) _
   have n9':H9'.next=H8.next:=by rw[←e9];rfl
   have hob9:OB H9' 30 25 (Rg H3.next H5.next) bd (eightT bd.kind bd.term ta tc sa bd.sub.length sc):=hob6.to (fun n hn hl=>⟨by have:=hn.1;rw[←e9,get_put,if_neg (by omega),get_put,if_neg (by omega)];exact hx68.keep n hl,by omega⟩) fun _ hn=>hn
   simp only[e9];refine zer (H:=H9') (fun H10 hx10=>?_) hx9'.wf;have g1':=hx10.get hx9'.wf g1;have q1':=row8 g1';have q2':=row1 (hx10.get hx9'.wf g2);have n10:=hx10.next;refine z74 rfl (by simp only[sB,Za,reduceCtorEq];rfl) (by simp only[sA,ld30,q1'];rfl) (by simp only[sB,Za,reduceCtorEq];rfl) (by simp only[sA,ld34,q2'];rfl) ⟨hx9'.trans hx10,_,_,rfl,?_,?_⟩
   ·rw[hrs];exact(hob9.keep hx10).sub fun n hn=>⟨by have:=hn.1;omega,by have:=hn.2;omega⟩
   ·rw[hrs];exact RepES.fine
end Go.Proofs.hq
end

section
namespace Go.Proofs.hq
open Go Go.RowKit Go.Hb
variable {ok:Ok}
set_option maxRecDepth 10000
attribute [local irreducible] LX LG EL STG SOP SGO SGD SAL SRD SEF SEG SLK SCK ES
section
variable {f:Int→Int}
abbrev ren (f:Int→Int) (t:Tm):Tm:=sub (fun n=>varT (f n)) t
theorem z9w {t:Tm}(h:t.kind=1):ren f t=varT (f t.var):=z4z h
theorem z4n {t:Tm}(h:t.kind≠1):ren f t=.mk t.kind t.name t.num t.bits t.var (t.args.map (ren f)):=zhu h
theorem zet:∀(m:Nat) {t:Tm},SizeOf.sizeOf t < m→Fine t→nd (ren f t)=nd t
 |0,t,h,_=>by omega
 |m+1,t,h,hf=>by
  by_cases k:t.kind=1
  ·rw[z9w k];have h1:nd t=1:=by rw[z1p,z70 hf k];rfl
   rw[h1];rfl
  ·rw[z1p (ren f t),z1p t,show (ren f t).args=t.args.map (ren f) by rw[z4n k];rfl];have go:∀l:List Tm,(∀u∈l,SizeOf.sizeOf u < m∧Fine u)→nd.ndL (l.map (ren f))=nd.ndL l:=by
    intro l
    induction l with
    |nil=>intro _;rfl
    |cons x l ih =>
     intro hl;rw[ZC,nd.ndL,nd.ndL,zet m (hl x (by simp)).1 (hl x (by simp)).2,ih fun u hu=>hl u (by simp [hu])]
   rw[go t.args fun u hu=>⟨by have:=z0d hu;omega,hf.args u hu⟩]
theorem zco:∀(m:Nat) {t:Tm},SizeOf.sizeOf t < m→Fine t→occ (ren f t)=(occ t).map f
 |0,t,h,_=>by omega
 |m+1,t,h,hf=>by
  by_cases k:t.kind=1
  ·rw[z9w k,z2d,z2d t,z70 hf k,if_pos k];rfl
  ·rw[z2d (ren f t),z2d t,if_neg k,show (ren f t).args=t.args.map (ren f) by rw[z4n k];rfl,if_neg (by rw[z4n k];exact k)];have go:∀l:List Tm,(∀u∈l,SizeOf.sizeOf u < m∧Fine u)→occL (l.map (ren f))=(occL l).map f:=by
    intro l
    induction l with
    |nil=>intro _;rfl
    |cons x l ih =>
     intro hl;rw[ZC,occL,occL,zco m (hl x (by simp)).1 (hl x (by simp)).2,ih fun u hu=>hl u (by simp [hu]),ZD]
   simpa using go t.args fun u hu=>⟨by have:=z0d hu;omega,hf.args u hu⟩
theorem zcp {l:List Tm}(h:∀u∈l,Fine u):occL (l.map (ren f))=(occL l).map f:=by
 induction l with
 |nil=>rfl
 |cons x l ih=>rw[ZC,occL,occL,zco _ (Zf _) (h x (by simp)),ih fun u hu=>h u (by simp [hu]),ZD]
theorem z3b (l:List Tm):plainL l=l.map (ren (plcZ (uniq (occL l)))):=_root_.id rfl
theorem z69 {t:Tm}(hf:∀n,0≤f n) (h:checkS t=0):checkS (ren f t)=0:=by
 obtain⟨h1,h2⟩:=z0e.1 h;refine z0e.2 ⟨?_,zhx (fun n _=>zch (hf n)) _ t (Zf _) h2⟩;have h3:=zaz _ t (Zf _) 0 h1;have h4:=zet (f:=f) _ (Zf _) h2;rw[z45 _ _ (Zf _) 0 (by omega)];omega
theorem _root_.Go.Hb.FL.repD {H:Heap}{T:TypeId}{S:Nat→Prop}{l:List Tm}{a:Option Addr}{c:Nat}(h:FL H T S l a c) (hw:H.wf):∃cells,∀G:Heap,(∀n,S n→n < H.next→G.get n=H.get n)→RepL G l a c cells:=by
 cases h with
 |nil=>exact⟨fun _=>[],fun G _=>⟨Zg _,Zs _,fun _=>⟨rfl,rfl⟩,fun i ad hi=>by simp at hi,fun i t h=>by simp at h⟩⟩
 |row _ _ b c cells Si ai ci h1 h2 h3 h4 h5 h6 h7 h8 h9 h10 h11 =>
  refine⟨fun i=>(cells.drop (i*6)).take 6,fun G hk=>RepL.of_row (by rw[hk b h7 (hw b _ h3)];exact h3) (fun i hi=>rfl) (fun i t ht=>?_) h1 h2⟩;show RepT G t ((cells.drop (i*6)).take 6);rw[h5 i t ht];exact RepF.rep (T:=T) (S:=Si i) ⟨ai i,ci i,rfl,h6 i t ht,(h11 i t ht).heap (fun n hn hl=>hk n (h9 i n (List.getElem?_eq_some_iff.1 ht).1 hn) hl) hw⟩
theorem _root_.Go.Hb.FL.elS {H:Heap}{T:TypeId}{S:Nat→Prop}{l:List Tm}{a:Option Addr}{c:Nat}(h:FL H T S l a c) (hw:H.wf) {i:Nat}(hi:i < l.length):∃b o a1 c1,a=some ⟨b,o,none⟩∧H.load ⟨b,o+i*6,none⟩ 6=some (six l[i] a1 c1)∧RepS H S l[i] (six l[i] a1 c1):=by
 obtain⟨cells,hc⟩:=h.repD hw;have he:=Zc hi;obtain⟨b,o,rfl,hl,hr⟩:=(hc H fun _ _ _=>rfl).at he;obtain⟨a1,c1,-,h3,-⟩:=hr.six;rw[h3] at hl;exact⟨b,o,a1,c1,rfl,hl,fun G hG=>by rw[←h3];exact(hc G hG).rep i _ he⟩
end
abbrev isF2 (t:Tm) (s:ByteArray) (x y:Tm):Prop:=t.kind=5∧t.name=s∧t.args=[x,y]
theorem isF2.f {t x y:Tm}{s:ByteArray}(h:isF2 t s x y):isF t s:=⟨h.1,h.2.1,by rw[h.2.2];rfl⟩
theorem isF2.a0 {t x y:Tm}{s:ByteArray}(h:isF2 t s x y):t.at 0=x:=by unfold Tm.at;rw[h.2.2];rfl
theorem isF2.a1 {t x y:Tm}{s:ByteArray}(h:isF2 t s x y):t.at 1=y:=by unfold Tm.at;rw[h.2.2];rfl
theorem isF.two {t:Tm}{s:ByteArray}(h:isF t s):∃x y,isF2 t s x y:=by
 obtain⟨h1,h2,h3⟩:=h
 match hl:t.args,h3 with
 |[x,y],_=>exact⟨x,y,h1,h2,hl⟩
theorem isF.ne {t:Tm}{s u:ByteArray}(h:isF t s) (hs:s≠u):¬isF t u:=fun k=>hs (h.2.1.symm.trans k.2.1)
structure Oth (t:Tm):Prop where
 num:¬isNum t
 var:t.kind≠1
 tru:¬(t.kind=2∧t.name=sTrue)
 cut:¬(t.kind=2∧t.name=sExc)
 col:¬isF t sCol
 cma:¬isF t sCma
 arr:¬isF t sArr
 sem:¬isF t sSem
inductive BdR:Tm→Bdy→Prop
 |var {t}:t.kind=1→BdR t (callB t)
 |tru {t}:t.kind=2→t.name=sTrue→BdR t (.mk 1 zeroT [])
 |cut {t}:t.kind=2→t.name=sExc→BdR t (.mk 2 zeroT [])
 |mcall {t x y}:isF2 t sCol x y→(x.kind=1∨x.kind=2)→¬isNum y→(x.kind=1∨y.kind=1)→BdR t (callB t)
 |mod {t x y b}:isF2 t sCol x y→x.kind=2→y.kind≠1→¬isNum y→BdR y b→BdR t (.mk 7 x [b])
 |and {t x y b d}:isF2 t sCma x y→BdR x b→BdR y d→BdR t (.mk 4 zeroT [b,d])
 |arr {t x y b d}:isF2 t sArr x y→BdR x b→BdR y d→BdR t (.mk 6 zeroT [b,d])
 |ite {t x y u w b d e}:isF2 t sSem x y→isF2 x sArr u w→BdR u b→BdR w d→BdR y e→BdR t (.mk 6 zeroT [b,d,e])
 |or {t x y b d}:isF2 t sSem x y→¬isF x sArr→BdR x b→BdR y d→BdR t (.mk 5 zeroT [b,d])
 |call {t}:Oth t→BdR t (.mk 3 t [])
theorem zrt {f:Tm→Option Bdy}{k:Int}{x y:Tm}{b:Bdy}(h:subBF f k [x,y]=some b):∃b1 b2,f x=some b1∧f y=some b2∧b=.mk k zeroT [b1,b2]:=by
 unfold subBF at h;simp only[subBL] at h;cases h1:f x<;>cases h2:f y<;>simp [h1,h2] at h
 exact⟨_,_,rfl,rfl,h.symm⟩
theorem zue {f:Tm→Option Bdy}{k:Int}{x y z:Tm}{b:Bdy}(h:subBF f k [x,y,z]=some b):∃b1 b2 b3,f x=some b1∧f y=some b2∧f z=some b3∧b=.mk k zeroT [b1,b2,b3]:=by
 unfold subBF at h;simp only[subBL] at h;cases h1:f x<;>cases h2:f y<;>cases h3:f z<;>simp [h1,h2,h3] at h
 exact⟨_,_,_,rfl,rfl,rfl,h.symm⟩
theorem zg5:∀{m:Nat}{t:Tm}{b:Bdy},bodyF m t=some b→BdR t b:=by
 intro m
 induction m with
 |zero=>intro t b h;cases h
 |succ m ih =>
  intro t b h;rw[bodyF] at h;by_cases h1:isNum t
  ·rw[if_pos h1] at h;cases h
  rw[if_neg h1] at h;by_cases h2:t.kind=1
  ·rw[if_pos h2] at h;cases h;exact .var h2
  rw[if_neg h2] at h;by_cases h3:t.kind=2∧t.name=sTrue
  ·rw[if_pos h3] at h;cases h;exact .tru h3.1 h3.2
  rw[if_neg h3] at h;by_cases h4:t.kind=2∧t.name=sExc
  ·rw[if_pos h4] at h;cases h;exact .cut h4.1 h4.2
  rw[if_neg h4] at h;by_cases h5:isF t sCol
  ·rw[if_pos h5] at h;obtain⟨x,y,hf⟩:=h5.two;unfold withinF at h;rw[hf.a0,hf.a1] at h;by_cases k1:isNum y∨(x.kind≠2∧x.kind≠1)
   ·rw[if_pos k1] at h;cases h
   rw[if_neg k1] at h;by_cases k2:x.kind=1∨y.kind=1
   ·rw[if_pos k2] at h;cases h;exact .mcall hf (by omega) (fun q=>k1 (.inl q)) k2
   rw[if_neg k2] at h;cases hb:bodyF m y<;>rw[hb] at h<;>cases h
   exact .mod hf (by omega) (by omega) (fun q=>k1 (.inl q)) (ih hb)
  rw[if_neg h5] at h;by_cases h6:isF t sCma
  ·rw[if_pos h6] at h;obtain⟨x,y,hf⟩:=h6.two;rw[hf.2.2] at h;obtain⟨b1,b2,e1,e2,rfl⟩:=zrt h;exact .and hf (ih e1) (ih e2)
  rw[if_neg h6] at h;by_cases h7:isF t sArr
  ·rw[if_pos h7] at h;obtain⟨x,y,hf⟩:=h7.two;rw[hf.2.2] at h;obtain⟨b1,b2,e1,e2,rfl⟩:=zrt h;exact .arr hf (ih e1) (ih e2)
  rw[if_neg h7] at h;by_cases h8:isF t sSem∧isF (t.at 0) sArr
  ·rw[if_pos h8] at h;obtain⟨x,y,hf⟩:=h8.1.two;rw[hf.a0] at h8;obtain⟨u,w,hg⟩:=h8.2.two;rw[hf.a0,hf.a1,hg.a0,hg.a1] at h;obtain⟨b1,b2,b3,e1,e2,e3,rfl⟩:=zue h;exact .ite hf hg (ih e1) (ih e2) (ih e3)
  rw[if_neg h8] at h;by_cases h9:isF t sSem
  ·rw[if_pos h9] at h;obtain⟨x,y,hf⟩:=h9.two;rw[hf.2.2] at h;obtain⟨b1,b2,e1,e2,rfl⟩:=zrt h;exact .or hf (fun q=>h8 ⟨h9,by rw[hf.a0];exact q⟩) (ih e1) (ih e2)
  rw[if_neg h9] at h;cases h;exact .call ⟨h1,h2,h3,h4,h5,h6,h7,h9⟩
theorem isF2.lt {t x y:Tm}{s:ByteArray}(h:isF2 t s x y):SizeOf.sizeOf x < SizeOf.sizeOf t∧SizeOf.sizeOf y < SizeOf.sizeOf t:=⟨z0d (by rw[h.2.2];simp),z0d (by rw[h.2.2];simp)⟩
theorem isF.nn {t:Tm}{s:ByteArray}(h:isF t s):¬isNum t∧t.kind≠1∧∀u,¬(t.kind=2∧t.name=u):=by
 have:=h.1;exact⟨fun q=>by rcases q with q|q<;>omega,by omega,fun u q=>by omega⟩
theorem zcq:∀{m:Nat}{t:Tm}{b:Bdy},SizeOf.sizeOf t < m→BdR t b→bodyF m t=some b:=by
 intro m
 induction m with
 |zero=>intro t b h;omega
 |succ m ih =>
  intro t b hs h;have go:∀{s:ByteArray},isF t s→bodyF (m+1) t=(if isF t sCol then withinF (bodyF m) t
    else if isF t sCma then subBF (bodyF m) 4 t.args
    else if isF t sArr then subBF (bodyF m) 6 t.args
    else if isF t sSem∧isF (t.at 0) sArr then subBF (bodyF m) 6 [(t.at 0).at 0,(t.at 0).at 1,t.at 1]
    else if isF t sSem then subBF (bodyF m) 5 t.args
    else some (.mk 3 t [])):=fun hf=>by
   obtain⟨h1,h2,h3⟩:=hf.nn;rw[bodyF,if_neg h1,if_neg h2,if_neg (h3 _),if_neg (h3 _)]
  cases h with
  |var h=>rw[bodyF,if_neg (fun q=>by rcases q with q|q<;>omega),if_pos h]
  |tru h1 h2=>rw[bodyF,if_neg (fun q=>by rcases q with q|q<;>omega),if_neg (by omega),if_pos ⟨h1,h2⟩]
  |cut h1 h2=>rw[bodyF,if_neg (fun q=>by rcases q with q|q<;>omega),if_neg (by omega),if_neg (fun q=>by rw[h2] at q;exact absurd q.2 (by decide)),if_pos ⟨h1,h2⟩]
  |mcall hf h1 h2 h3 =>
   rw[go hf.f,if_pos hf.f];unfold withinF;rw[hf.a0,hf.a1,if_neg (fun q=>by rcases q with q|q;exact h2 q;omega),if_pos h3]
  |mod hf h1 h2 h3 hb =>
   rw[go hf.f,if_pos hf.f];unfold withinF;rw[hf.a0,hf.a1,if_neg (fun q=>by rcases q with q|q;exact h3 q;omega),if_neg (by omega),ih (by have:=hf.lt;omega) hb];rfl
  |and hf hb hd =>
   rw[go hf.f,if_neg (hf.f.ne (by decide)),if_pos hf.f,hf.2.2];unfold subBF;simp only[subBL,ih (by have:=hf.lt;omega) hb,ih (by have:=hf.lt;omega) hd];rfl
  |arr hf hb hd =>
   rw[go hf.f,if_neg (hf.f.ne (by decide)),if_neg (hf.f.ne (by decide)),if_pos hf.f,hf.2.2];unfold subBF;simp only[subBL,ih (by have:=hf.lt;omega) hb,ih (by have:=hf.lt;omega) hd];rfl
  |ite hf hg hb hd he =>
   have l1:=hf.lt;have l2:=hg.lt;rw[go hf.f,if_neg (hf.f.ne (by decide)),if_neg (hf.f.ne (by decide)),if_neg (hf.f.ne (by decide)),if_pos ⟨hf.f,by rw[hf.a0];exact hg.f⟩,hf.a0,hf.a1,hg.a0,hg.a1];unfold subBF;simp only[subBL,ih (by omega) hb,ih (by omega) hd,ih (by omega) he];rfl
  |or hf hn hb hd =>
   rw[go hf.f,if_neg (hf.f.ne (by decide)),if_neg (hf.f.ne (by decide)),if_neg (hf.f.ne (by decide)),if_neg (fun q=>hn (by rw[hf.a0] at q;exact q.2)),if_pos hf.f,hf.2.2];unfold subBF;simp only[subBL,ih (by have:=hf.lt;omega) hb,ih (by have:=hf.lt;omega) hd];rfl
  |call h=>rw[bodyF,if_neg h.num,if_neg h.var,if_neg h.tru,if_neg h.cut,if_neg h.col,if_neg h.cma,if_neg h.arr,if_neg (fun q=>h.sem q.1),if_neg h.sem]
theorem z1l {t:Tm}:toldB (callB t)=cmpT sCall [t]:=by rw[z2j];rfl
theorem zeu:toldB (.mk 1 zeroT [])=atmT sTrue:=by rw[z2j];rfl
theorem zev:toldB (.mk 2 zeroT [])=atmT sExc:=by rw[z2j];rfl
theorem zb6 {t:Tm}:toldB (.mk 3 t [])=t:=by rw[z2j];rfl
theorem zb7 {x:Tm}{b:Bdy}:toldB (.mk 7 x [b])=cmpT sCol [x,toldB b]:=by rw[z2j];rfl
theorem zb8 {b d:Bdy}:toldB (.mk 4 zeroT [b,d])=cmpT sCma [toldB b,toldB d]:=by rw[z2j];rfl
theorem zb9 {b d:Bdy}:toldB (.mk 5 zeroT [b,d])=cmpT sSem [toldB b,toldB d]:=by rw[z2j];rfl
theorem zba {b d:Bdy}:toldB (.mk 6 zeroT [b,d])=cmpT sArr [toldB b,toldB d]:=by rw[z2j];rfl
theorem z7p {b d e:Bdy}:toldB (.mk 6 zeroT [b,d,e])=cmpT sSem [cmpT sArr [toldB b,toldB d],toldB e]:=by rw[z2j];rfl
theorem cmp2 {s:ByteArray}{x y:Tm}:isF2 (cmpT s [x,y]) s x y:=⟨rfl,rfl,rfl⟩
theorem zi3 {t:Tm}:Oth (cmpT sCall [t]) :=
 ⟨(fun q=>by rcases q with q|q<;>cases q),(fun q=>by cases q),(fun q=>by cases q.1),(fun q=>by cases q.1),(fun q=>by cases q.2.2),(fun q=>by cases q.2.2),(fun q=>by cases q.2.2),(fun q=>by cases q.2.2)⟩
theorem z3n {s:ByteArray}{l:List Tm}:¬isNum (cmpT s l)∧(cmpT s l).kind≠1:=⟨(fun q=>by rcases q with q|q<;>cases q),(fun q=>by cases q)⟩
theorem ztb {t:Tm}{b:Bdy}(h:BdR t b):BdR (toldB b) b∧¬isNum (toldB b)∧(toldB b).kind≠1∧(isF (toldB b) sArr→isF t sArr):=by
 induction h with
 |var h=>rw[z1l];exact⟨.call zi3,z3n.1,z3n.2,(fun q=>by cases q.2.2)⟩
 |tru h1 h2=>rw[zeu];exact⟨.tru rfl rfl,(fun q=>by rcases q with q|q<;>cases q),(fun q=>by cases q),(fun q=>by cases q.1)⟩
 |cut h1 h2=>rw[zev];exact⟨.cut rfl rfl,(fun q=>by rcases q with q|q<;>cases q),(fun q=>by cases q),(fun q=>by cases q.1)⟩
 |mcall hf h1 h2 h3=>rw[z1l];exact⟨.call zi3,z3n.1,z3n.2,(fun q=>by cases q.2.2)⟩
 |mod hf h1 h2 h3 hb ih=>rw[zb7];exact⟨.mod cmp2 h1 ih.2.2.1 ih.2.1 ih.1,z3n.1,z3n.2,fun q=>absurd q (cmp2.f.ne (by decide))⟩
 |and hf hb hd i1 i2=>rw[zb8];exact⟨.and cmp2 i1.1 i2.1,z3n.1,z3n.2,fun q=>absurd q (cmp2.f.ne (by decide))⟩
 |arr hf hb hd i1 i2=>rw[zba];exact⟨.arr cmp2 i1.1 i2.1,z3n.1,z3n.2,fun q=>hf.f⟩
 |ite hf hg hb hd he i1 i2 i3=>rw[z7p];exact⟨.ite cmp2 cmp2 i1.1 i2.1 i3.1,z3n.1,z3n.2,fun q=>absurd q (cmp2.f.ne (by decide))⟩
 |or hf hn hb hd i1 i2=>rw[zb9];exact⟨.or cmp2 (fun q=>hn (i1.2.2.2 q)) i1.1 i2.1,z3n.1,z3n.2,fun q=>absurd q (cmp2.f.ne (by decide))⟩
 |call h=>rw[zb6];exact⟨.call h,h.num,h.var,fun q=>q⟩
def szB:Bdy→Nat
 |.mk _ t l=>1+nd t+szBL l
where szBL:List Bdy→Nat
 |[]=>0
 |b :: l=>szB b+szBL l
theorem z55 {t:Tm}{l:List Tm}:nd.ndL (t :: l)=nd t+nd.ndL l:=by rw[nd.ndL]
theorem zru (t:Tm):1≤nd t:=by rw[z1p];omega
theorem z6a {s:ByteArray}{x y:Tm}:nd (cmpT s [x,y])=1+nd x+nd y:=by rw[z1p];show 1+nd.ndL [x,y]=_;rw[z55,z55,nd.ndL];omega
theorem zcr {s:ByteArray}{x:Tm}:nd (cmpT s [x])=1+nd x:=by rw[z1p];show 1+nd.ndL [x]=_;rw[z55,nd.ndL,Nat.add_zero]
theorem zjk {t x y:Tm}{s:ByteArray}(h:isF2 t s x y):nd t=1+nd x+nd y:=by rw[z1p,h.2.2,z55,z55,nd.ndL];omega
theorem z7q:nd zeroT=1:=by rw[z1p];rfl
theorem zq3 {s:ByteArray}:nd (atmT s)=1:=by rw[z1p];rfl
theorem zrv {t:Tm}{b:Bdy}(hf:Fine t) (h:BdR t b):nd t≤nd (toldB b)∧szB b≤2*nd (toldB b):=by
 have lf:∀{t:Tm},Fine t→t.kind≠5→nd t=1:=fun h k=>by rw[z1p,(z1v (z22 h.node).2.2.1).2.2.2.2 k];rfl
 induction h with
 |var h=>rw[z1l,zcr,callB];simp only[szB,szB.szBL,zcr];omega
 |tru h1 h2=>rw[zeu,zq3,lf hf (by omega)];simp only[szB,szB.szBL,z7q];omega
 |cut h1 h2=>rw[zev,zq3,lf hf (by omega)];simp only[szB,szB.szBL,z7q];omega
 |mcall h h1 h2 h3=>rw[z1l,zcr,callB];simp only[szB,szB.szBL,zcr];omega
 |mod h h1 h2 h3 hb ih =>
  have:=ih (hf.args _ (by rw[h.2.2];simp));have hx:=lf (hf.args _ (show _∈_ by rw[h.2.2];exact List.mem_cons_self)) (by omega);rw[zb7,z6a,zjk h];simp only[szB,szB.szBL];omega
 |and h hb hd i1 i2 =>
  have:=i1 (hf.args _ (by rw[h.2.2];simp));have:=i2 (hf.args _ (by rw[h.2.2];simp));rw[zb8,z6a,zjk h];simp only[szB,szB.szBL,z7q];omega
 |arr h hb hd i1 i2 =>
  have:=i1 (hf.args _ (by rw[h.2.2];simp));have:=i2 (hf.args _ (by rw[h.2.2];simp));rw[zba,z6a,zjk h];simp only[szB,szB.szBL,z7q];omega
 |ite h hg hb hd he i1 i2 i3 =>
  have hx:=hf.args _ (show _∈_ by rw[h.2.2];exact List.mem_cons_self);have:=i1 (hx.args _ (by rw[hg.2.2];simp));have:=i2 (hx.args _ (by rw[hg.2.2];simp));have:=i3 (hf.args _ (by rw[h.2.2];simp));rw[z7p,z6a,z6a,zjk h,zjk hg];simp only[szB,szB.szBL,z7q];omega
 |or h hn hb hd i1 i2 =>
  have:=i1 (hf.args _ (by rw[h.2.2];simp));have:=i2 (hf.args _ (by rw[h.2.2];simp));rw[zb9,z6a,zjk h];simp only[szB,szB.szBL,z7q];omega
 |call h=>rw[zb6];simp only[szB,szB.szBL];have:=zru ‹Tm›;omega
abbrev sInst:ByteArray:=⟨#[105,110,115,116,97,110,116,105,97,116,105,111,110,95,101,114,114,111,114]⟩
abbrev sAtomW:ByteArray:=⟨#[97,116,111,109]⟩
noncomputable def stripF:Nat→ByteArray→Tm→ByteArray × Tm × Er
 |0,m,t=>(m,t,.ok)
 |k+1,m,t=>if isF t sCol then
   (if (t.at 0).kind=1 then (Ze,t,.ball (atmT sInst)) else if (t.at 0).kind=2 then stripF k (t.at 0).name (t.at 1) else (Ze,t,.ball (typeT sAtomW (t.at 0))))
  else (m,t,.ok)
noncomputable def stripS (m:ByteArray) (t:Tm):ByteArray × Tm × Er:=stripF (SizeOf.sizeOf t+1) m t
def StripEnd (H0 H:Heap) (R:ByteArray × Tm × Er) (v:Value) (H':Heap):Prop:=HX H H'∧∃a c ev,v=.tuple ⟨[.string R.1,.agg ⟨six R.2.1 a c⟩,ev]⟩∧RepT H0 R.2.1 (six R.2.1 a c)∧RepES H' (Rg H.next H'.next) R.2.2 ev∧checkS R.2.1=0
set_option maxHeartbeats 8000000 in
theorem zi4 {m:ByteArray}{t:Tm}{cs:List Value}{H0 H:Heap}(r0:RepT H0 t cs) (hx0:HX H0 H) (hw0:H0.wf) (hc:checkS t=0) (hw:H.wf):EvF Tryz.prog okT 30 [.string m,.agg ⟨cs⟩] H (StripEnd H0 H (stripS m t)):=by
 obtain⟨a,c,cells,rfl,-⟩:=r0.six;refine EvF.enter rfl Tryz.func30 (by decide) rfl ?_;(repeat refine EvC.seq ?_);refine EvC.reg ?_;simp (disch:=first|omega|rfl) only[sB,initTm,dBox,dAlloc,Value.cells,one,reduceCtorEq,zr25];obtain⟨H2,e2,hx2,g3,g5,hn2,hw2⟩:=new2 hw (.row (six t a c) 25) (.row zero6 25);simp only[e2];clear e2;(repeat refine EvC.seq ?_);refine EvC.join (fun st=>∃tm H' u m' a c,st=⟨tm,[],H'⟩∧(m',u,Er.ok)=stripS m t∧checkS u=0∧tm.get 0=some (.string m')∧tm.get 3=some (.pointer (some ⟨H.next,0,none⟩))∧tm.get 5=some (.pointer (some ⟨H.next+1,0,none⟩)) ∧
  H'.get H.next=some (.row (six u a c) 25)∧H'.get (H.next+1)=some (.row zero6 25)∧RepT H0 u (six u a c)∧HX H H') ?_ ?_
 ·refine EvC.block (EvC.loop (fun k st=>∃tm H' u m' a c,st=⟨tm,[],H'⟩∧SizeOf.sizeOf u < k∧stripF k m' u=stripS m t∧checkS u=0∧tm.get 0=some (.string m')∧tm.get 3=some (.pointer (some ⟨H.next,0,none⟩))∧tm.get 5=some (.pointer (some ⟨H.next+1,0,none⟩)) ∧
   H'.get H.next=some (.row (six u a c) 25)∧H'.get (H.next+1)=some (.row zero6 25)∧RepT H0 u (six u a c)∧HX H H') ?_ (SizeOf.sizeOf t+1) _ ?_)
  rotate_left
  ·exact⟨_,_,t,m,a,c,rfl,Zf _,rfl,hc,(by simp only[sG,reduceCtorEq]),(by simp only[sG,Za,reduceCtorEq]),(by simp only[sG,Za,reduceCtorEq]),g3,g5,r0,hx2⟩
  rintro k st ⟨tm,H',u,m',a,c,rfl,hk,hR,hcu,t0,t3,t5,g3,g5,ru,hx⟩;have hw':=hx.wf;have q3:=row6 g3;(repeat refine EvC.seq ?_);refine EvC.reg ?_;simp only[sB,ld25,cl32,t3,q3];refine(z87 (s:=sCol) (ru.mono (hx0.trans hx) hw0) hw').mono ?_;rintro v H3 ⟨rfl,hx3⟩;have g3:=hx3.get hw' g3;have g5:=hx3.get hw' g5;have hx:=hx.trans hx3;have w3:=hx.wf;have q3:=row6 g3;obtain⟨k,rfl⟩:∃n,k=n+1:=⟨k - 1,by omega⟩
  try simp only[]
  by_cases hi:isF u sCol;rotate_left
  ·rw[stripF,if_neg hi] at hR
   repeat' (first|(refine EvC.exit ?_;try simp only[sB,decide_eq_false hi])|(refine EvC.condF ?_ ?_;simp only[sB,Za,decide_eq_false hi];refine z07 ?_))
   exact⟨_,_,u,m',a,c,rfl,hR,hcu,(by simp only[sG,reduceCtorEq,t0]),(by simp only[sG,Za,t3]),(by simp only[sG,Za,t5]),g3,g5,ru,hx⟩
  rw[stripF,if_pos hi] at hR;refine EvC.condT (by simp only[sB,Za,decide_eq_true hi]) ?_;(try refine EvC.skip ?_);(try simp only[z00,z01]);obtain⟨x,y,hxy⟩:∃x y,u.args=[x,y]:=by
   match hl:u.args,hi.2.2 with
   |[x,y],_=>exact⟨x,y,rfl⟩
  have ex:u.at 0=x:=by unfold Tm.at;rw[hxy];rfl
  have ey:u.at 1=y:=by unfold Tm.at;rw[hxy];rfl
  have x0:u.args[0]'(by rw[hxy];simp)=x:=by simp [hxy]
  have y1:u.args[1]'(by rw[hxy];simp)=y:=by simp [hxy]
  obtain⟨a0,c0,cells0,hcs,-,-,-,-,-,rl⟩:=ru.six;obtain⟨-,-,-,-,-,rfl,rfl⟩:=z4h hcs;obtain⟨b,o,a1,c1,rfl,hld0,hr0⟩:=rl.el (i:=0) (by rw[hxy];simp);obtain⟨b',o',a2,c2,e2,hld1,hr1⟩:=rl.el (i:=1) (by rw[hxy];simp);cases e2;rw[x0] at hld0 hr0;rw[y1] at hld1 hr1;simp only[Zu,Nat.add_zero,ZL] at hld0 hld1;have hcx:=z0p hcu (u:=x) (by rw[hxy];simp);have hcy:=z0p hcu (u:=y) (by rw[hxy];simp);have hsy:SizeOf.sizeOf y < SizeOf.sizeOf u:=z0d (by rw[hxy];simp);rw[ex,ey] at hR;have hxl:u.args.length=2:=hi.2.2;have l0:=(hx0.trans hx).load hw0 hld0;(repeat refine EvC.seq ?_);refine EvC.block ?_;(repeat refine EvC.seq ?_);refine EvC.reg ?_;simp (disch:=first|omega|rfl) only[sB,dAlloc,Za,Zb,one,Zv,zr25,ld25,z0j,ld23,st25,t3,q3,hxl,l0,iz23,Zu];obtain⟨H4,e4,hx4,g7,hn4,w4⟩:=z0l w3 (.row zero6 25) (.row (six x a1 c1) 25);simp only[e4];clear e4;have g3:=hx4.get w3 g3;have g5:=hx4.get w3 g5;have q3:=row6 g3;have q7:=row6 g7;have hx:=hx.trans hx4;have l1:=(hx0.trans hx).load hw0 hld1;(repeat refine EvC.seq ?_);refine EvC.reg ?_;simp only[sB,Za,z0g,ld3,q7];(repeat refine EvC.seq ?_);refine EvC.block ?_;have n4:=hx.next
  by_cases k1:x.kind=1
  ·rw[if_pos k1] at hR;(repeat refine EvC.seq ?_);refine EvC.reg ?_;simp only[sB,Za,z0k k1];refine EvC.condT (by simp only[sB,Za]) ?_;(try refine EvC.skip ?_);(try simp only[z00,z01]);(repeat refine EvC.seq ?_);refine EvC.drw [([],some 1),([],some 2),([(0,0),(3,2)],some 4),([(5,3)],none)] (by kernel_rfl) ?_;simp only[sD,sA,Zb,cl31];have hb:=(HX.refl w4).bump 6;refine(z4k hb.wf).mono ?_;rintro v H5 ⟨rfl,hx5⟩;have w5:=hx5.wf;have q35:=row6 ((hb.trans hx5).get w4 g3)
   repeat' (first|(refine z0h ?_;simp only[sD,sB,Za,cl33]))
   refine(z8i (S:=fun _=>False) (z1z (by decide)) w5 (fun _ h=>h.elim)).mono ?_;rintro v H6 ⟨hx6,he6⟩;have hx46:=(hb.trans hx5).trans hx6;have q36:=row6 (hx46.get w4 g3);have g5:=hx46.get w4 g5;have n6:=hx46.next
   repeat' (first|(refine EvC.ret ?_;try simp only[z04,z02])|(refine z0h ?_;simp (disch:=first|omega|rfl) only[sV,sD,sB,Za,Zb,one,reduceCtorEq,ld25,st25,t3,q3,q35,q36,g5,t5,isAlloc,isRead]))
   have hxz:=(hx.trans hx46).pt (i:=H.next+1) (by omega) g5 (some (.row (six u (some ⟨b,o,none⟩) c) 25));have n5:H4.next+6≤H5.next:=hx5.next;have n56:=hx6.next;rw[←hR];refine z4y rfl (by simp only[sB,Za];rfl) (by simp only[sB,Za,t5];rfl) (by simp only[sB,Zb,cutC,ld25]) (by simp only[sG,Za]) ⟨hxz,_,_,_,rfl,ru,he6.to fun n hn hl=>?_,hcu⟩;have hn':=hn.resolve_left (fun h=>h);exact⟨by rw[get_put,if_neg (by omega)],⟨by omega,by rw[z06];omega⟩,by rw[z06];omega⟩
  rw[if_neg k1] at hR;(repeat refine EvC.seq ?_);refine EvC.reg ?_;simp only[sB,Za,z0m k1];refine EvC.condF (by simp only[sB,Za]) ?_;(try refine EvC.skip ?_);(try simp only[z00,z01]);by_cases k2:x.kind=2
  ·rw[if_pos k2] at hR;(repeat refine EvC.seq ?_);refine EvC.reg ?_;simp only[sB,Za,z0k k2];refine EvC.condT (by simp only[sB,Za]) ?_;(try refine EvC.skip ?_);(try simp only[z00,z01]);refine EvC.drw [([(0,0),(1,0),(2,0),(3,0),(4,0),(5,0),(6,0)],some 7),([],none)] (by kernel_rfl) ?_;simp (disch:=first|omega|rfl) only[sD,sB,Za,Zb,one,reduceCtorEq,Zv,ld25,z0j,ld23,st25,z16,ld9,isAlloc,isRead,t3,q3,q7,g3,l1,hxl,iz23,ZL];have hb:=hx.bump 8;have hz:=hb.pt (i:=H.next) (Zg _) (show Heap.get ⟨H4.next+8,H4.t⟩ H.next=_ from g3) (some (.row (six y a2 c2) 25));exact⟨k,Zf _,_,_,y,x.name,a2,c2,rfl,by omega,hR,hcy,(by simp only[sG,reduceCtorEq]),(by simp only[sG,Za,reduceCtorEq,t3]),(by simp only[sG,Za,reduceCtorEq,t5]),by rw[get_put,if_pos rfl],by rw[get_put,if_neg (by omega)];exact g5,hr1,hz⟩
  ·rw[if_neg k2] at hR;(repeat refine EvC.seq ?_);refine EvC.reg ?_;simp only[sB,Za,z0m k2];refine EvC.condF (by simp only[sB,Za]) ?_;(try refine EvC.skip ?_);(try simp only[z00,z01]);(repeat refine EvC.seq ?_);refine EvC.drw [([(1,0)],some 2),([(0,0),(3,1)],some 4),([(5,2)],none)] (by kernel_rfl) ?_;simp only[sD,sB,Za,Zb,reduceCtorEq,ld25,cl34,isAlloc,isRead,q7];have hb:=(HX.refl w4).bump 6;refine(z73 (s:=sAtomW) (by decide) ((hr0.mono (hx0.trans hx) hw0).mono hb w4) hcx hb.wf).mono ?_;rintro v H6 ⟨hx6,he6⟩;have hx46:=hb.trans hx6;have q36:=row6 (hx46.get w4 g3);have g5:=hx46.get w4 g5;have n6:=hx46.next
   repeat' (first|(refine EvC.ret ?_;try simp only[z04,z02])|(refine z0h ?_;simp (disch:=first|omega|rfl) only[sV,sD,sB,Za,Zb,one,reduceCtorEq,ld25,st25,t3,q3,q36,g5,t5,isAlloc,isRead]))
   have hxz:=(hx.trans hx46).pt (i:=H.next+1) (by omega) g5 (some (.row (six u (some ⟨b,o,none⟩) c) 25));have n5:H4.next+6≤H6.next:=hx6.next;rw[←hR];refine z4y rfl (by simp only[sB,Za];rfl) (by simp only[sB,Za,t5];rfl) (by simp only[sB,Zb,cutC,ld25]) (by simp only[sG,Za]) ⟨hxz,_,_,_,rfl,ru,he6.to fun n hn hl=>?_,hcu⟩;have hn':H4.next+6≤n:=hn.1;exact⟨by rw[get_put,if_neg (by omega)],⟨by omega,by rw[z06];omega⟩,by rw[z06];omega⟩
 ·rintro st ⟨tm,H',u,m',a,c,rfl,hR,hcu,t0,t3,t5,g3,g5,ru,hx⟩;have q3:=row6 g3;simp only[z00];have hz:=(hx.bump 5).pt (i:=H.next+1) (by omega) (show Heap.get ⟨H'.next+5,H'.t⟩ (H.next+1)=_ from g5) (some (.row (six u a c) 25));(repeat refine EvC.seq ?_);refine EvC.drw [([(0,0),(1,0),(2,0)],some 3),([(4,1)],none)] (by kernel_rfl) ?_;simp (disch:=first|omega|rfl) only[sD,sB,Za,Zb,one,reduceCtorEq,ld25,st25,isAlloc,isRead,t0,t3,t5,q3,g5]
  repeat' (first|(refine EvC.ret ?_))
  rw[←hR];refine z4y rfl (by simp only[sG,Za]) (by simp only[sB,Za,t5];rfl) (by simp only[sB,Zb,cutC,ld25]) (by simp only[sG,Za]) ⟨hz,_,_,_,rfl,ru,RepES.fine,hcu⟩
theorem few6 {t:Tm}(h:checkS t=0):Few 1000000 t:=(Fine.few _ (Zf _) (z0e.1 h).2).up (by decide)
theorem z3o {t:Tm}{cs:List Value}{H:Heap}(r:RepT H t cs) (hf:Few 1000000 t) (hw:H.wf):EvF Tryz.prog okT 6 [.agg ⟨cs⟩] H fun v H'=>HX H H'∧∃out,v=.agg ⟨out⟩∧OT H' (Rg H.next H'.next) t out :=
 (zll (Zf _) r hf hw).mono fun v H' ⟨cs',hv,hr,hx⟩=>⟨hx,cs',hv,RepF.toS hr hx.wf,RepF.top hr hx.wf⟩
theorem zg6 {t:Tm}{cs:List Value}{H:Heap}(r:RepT H t cs) (hw:H.wf):EvF Tryz.prog okT 44 [.agg ⟨cs⟩] H fun v H'=>v=.bool (decide (isNum t))∧HX H H':=by
 obtain⟨a,c,cells,rfl,-⟩:=r.six;refine EvF.enter rfl Tryz.func44 (by decide) rfl ?_;(repeat refine EvC.seq ?_);refine EvC.reg ?_;simp only[sB,initTm,dBox,Value.cells,one];obtain⟨H2,e2,hx2,gt,hn2,hw2⟩:=new1 hw (.row (six t a c) 25);simp only[e2];have qt:=row6 gt;by_cases n3:t.kind=3
 ·have hd:decide (isNum t)=true:=decide_eq_true (.inl n3)
  repeat' (first|refine EvC.seq ?_|(refine EvC.ret ?_)|(refine EvC.reg ?_;simp only[sB,Za,reduceCtorEq,z0g,ld3,qt,z0k n3]))
  exact z03 rfl (by simp only[sB,Za,reduceCtorEq];rfl) ⟨by rw[hd],hx2⟩
 by_cases n4:t.kind=4
 ·have hd:decide (isNum t)=true:=decide_eq_true (.inr n4)
  repeat' (first|refine EvC.seq ?_|(refine EvC.ret ?_)|(refine EvC.reg ?_;simp only[sB,Za,reduceCtorEq,z0g,ld3,qt,z0m n3,z0k n4,Zd]))
  exact z03 rfl (by simp only[sB,Za,reduceCtorEq];rfl) ⟨by rw[hd],hx2⟩
 ·have hd:decide (isNum t)=false:=decide_eq_false fun h=>by rcases h with h|h;exact n3 h;exact n4 h
  repeat' (first|refine EvC.seq ?_|(refine EvC.ret ?_)|(refine EvC.reg ?_;simp only[sB,Za,reduceCtorEq,z0g,ld3,qt,z0m n3,z0m n4,Zd]))
  exact z03 rfl (by simp only[sB,Za,reduceCtorEq];rfl) ⟨by rw[hd],hx2⟩
theorem z88 {t:Tm}{cs:List Value}{s:ByteArray}{H:Heap}(r:RepT H t cs) (hw:H.wf) :
  EvF Tryz.prog okT 42 [.agg ⟨cs⟩,.string s] H fun v H'=>v=.bool (decide (isF t s))∧HX H H':=by
 obtain⟨a,c,cells,rfl,-⟩:=r.six;refine EvF.enter rfl Tryz.func42 (by decide) rfl ?_;(repeat refine EvC.seq ?_);refine EvC.reg ?_;simp only[sB,initTm,dBox,Value.cells,one,reduceCtorEq];obtain⟨H2,e2,hx2,gt,hn2,hw2⟩:=new1 hw (.row (six t a c) 25);simp only[e2];have qt:=row6 gt;by_cases k5:t.kind=5;rotate_left
 ·have hd:decide (isF t s)=false:=decide_eq_false fun h=>k5 h.1
  repeat' (first|refine EvC.seq ?_|(refine EvC.ret ?_)|(refine EvC.reg ?_;simp only[sB,Za,reduceCtorEq,z0g,ld3,qt,z0m k5,Zd]))
  exact z03 rfl (by simp only[sB,Za,reduceCtorEq];rfl) ⟨by rw[hd],hx2⟩
 by_cases kn:t.name=s;rotate_left
 ·have hd:decide (isF t s)=false:=decide_eq_false fun h=>kn h.2.1
  repeat' (first|refine EvC.seq ?_|(refine EvC.ret ?_)|(refine EvC.reg ?_;simp only[sB,Za,reduceCtorEq,z0g,ld3,z16,ld9,qt,z0k k5,z13,zb3 kn,Zd]))
  exact z03 rfl (by simp only[sB,Za,reduceCtorEq];rfl) ⟨by rw[hd],hx2⟩
 by_cases k2:t.args.length=2
 ·have hd:decide (isF t s)=true:=decide_eq_true ⟨k5,kn,k2⟩;have k2':(t.args.length:Int)=2:=by omega
  repeat' (first|refine EvC.seq ?_|(refine EvC.ret ?_)|(refine EvC.reg ?_;simp only[sB,Za,reduceCtorEq,z0g,ld3,z16,ld9,z0j,ld23,ln23,qt,z0k k5,z13,z86 kn,z0k k2']))
  exact z03 rfl (by simp only[sB,Za,reduceCtorEq];rfl) ⟨by rw[hd],hx2⟩
 ·have hd:decide (isF t s)=false:=decide_eq_false fun h=>k2 h.2.2
  have k2':(t.args.length:Int)≠2:=by omega
  repeat' (first|refine EvC.seq ?_|(refine EvC.ret ?_)|(refine EvC.reg ?_;simp only[sB,Za,reduceCtorEq,z0g,ld3,z16,ld9,z0j,ld23,ln23,qt,z0k k5,z13,z86 kn,z0m k2']))
  exact z03 rfl (by simp only[sB,Za,reduceCtorEq];rfl) ⟨by rw[hd],hx2⟩
theorem zjl {s:ByteArray}{H:Heap}(hw:H.wf):EvF Tryz.prog okT 25 [.string s] H fun v H'=>v=.agg ⟨six (atmT s) none 0⟩∧HX H H':=by
 refine EvF.enter rfl Tryz.func25 (by decide) rfl ?_
 repeat' (first|refine EvC.seq ?_|(refine EvC.ret ?_)|(refine EvC.reg ?_;simp only[sB,initTm,dAlloc,Za,Zb,Value.cells,one,reduceCtorEq,Zk,layC,zr25,bd25,st25]))
 exact z0a rfl (by simp only[sB,Za,reduceCtorEq];rfl) (by simp only[sB,Zb,cutC,ld25];rfl) ⟨rfl,((HX.refl hw).new _).put (Zg _) (Zf _) _⟩
set_option maxHeartbeats 2000000 in
theorem zi5 {t:Tm}{cs:List Value}{H:Heap}(r0:RepT H t cs) (hc:checkS t=0) (hw:H.wf) :
  EvF Tryz.prog okT 70 [.agg ⟨cs⟩] H fun v H'=>HX H H'∧∃out,v=.agg ⟨out⟩∧OB H' 30 25 (Rg H.next H'.next) (callB t) out:=by
 obtain⟨a,c,cells,rfl,-⟩:=r0.six;refine EvF.enter rfl Tryz.func70 (by decide) rfl ?_;(repeat refine EvC.seq ?_);refine EvC.reg ?_;simp only[sB,initTm,dBox,dAlloc,Value.cells,one,zr30];obtain⟨H2,e2,hx2,gt,gq,hn2,hw2⟩:=new2 hw (.row (six t a c) 25) (.row zero8 30);simp only[e2];clear e2;have qt:=row6 gt;(repeat refine EvC.seq ?_);refine EvC.reg ?_;simp only[sB,Za,Zb,Value.cells,reduceCtorEq,layC,ld25,cl6,z4s,qt];refine(z3o (r0.mono hx2 hw) (few6 hc) hw2).mono ?_;rintro v H3 ⟨hx3,out,rfl,hot⟩;obtain⟨a3,c3,z9f,rfl,-⟩:=hot.rep.six;have gq3:=hx3.get hw2 gq
 repeat' (first|(refine z0i ?_;simp only[sB,Za,Zb,Value.cells,one,reduceCtorEq,Zk,layC,cl24,bd30]))
 obtain⟨H4,e4,hx4,g4,hn4,hw4⟩:=new1 hx3.wf (.row (six t a3 c3) 25);simp only[e4];refine(F_ev (cs:=six t a3 c3) (by decide) (by decide) (ld1 g4 rfl) rfl hw4).mono ?_;rintro v H5 ⟨rfl,g5,n5',hx5⟩;have gq5:=hx5.get hw4 (hx4.get hx3.wf gq3);have n3:=hx3.next;have n5:=hx5.next;have hx35:=hx4.trans hx5
 repeat' (first|(refine EvC.ret ?_)|(refine z0i ?_;simp only[sB,Za,Zb,one,reduceCtorEq,Zk,st30,gq5]))
 refine z0a rfl (by simp only[sB,Za,reduceCtorEq];rfl) (by simp only[sB,Zb,cutC,ld30];rfl) ⟨((hx2.trans hx3).trans hx35).pt (by omega) gq5 _,_,rfl,?_⟩;have ho:OT H5 (fun n=>Rg H.next H5.next n∧n≠H.next+1) (cmpT sCall [t]) (six (cmpT sCall [t]) (some ⟨H4.next+2,0,none⟩) 1):=by
  refine OT.comp (by decide) g5 ⟨⟨by omega,by omega⟩,by omega⟩ (Zg _) (Zg _) (by decide) hx5.wf fun j hj=>?_
  match j,hj with
  |0,_=>exact hot.1.to fun n hn hl=>⟨hx35.keep n hl,⟨⟨by have:=hn.1;omega,by omega⟩,by have:=hn.1;omega⟩,by omega⟩
 refine OB.to (S:=fun n=>Rg H.next H5.next n∧n≠H.next+1) (.leaf _ 3 _ _ (by decide) ho.1 ho.2) (fun n hn hl=>⟨by rw[get_put,if_neg hn.2],by rw[z06];exact hl⟩) fun n hn=>⟨hn.1.1,by rw[z06];exact hn.1.2⟩
def RBEnd (H:Heap) (o:Option Bdy) (v:Value) (H':Heap):Prop:=HX H H'∧∃out bd,v=.tuple ⟨[.agg ⟨out⟩,.bool o.isSome]⟩∧OB H' 30 25 (Rg H.next H'.next) bd out∧∀b,o=some b→bd=b
def RBodyP (m:Nat):Prop:=∀(t:Tm) (cs:List Value) (H:Heap),SizeOf.sizeOf t < m→RepT H t cs→checkS t=0→H.wf→EvF Tryz.prog okT 45 [.agg ⟨cs⟩] H (RBEnd H (bodyF m t))
set_option maxHeartbeats 8000000 in
theorem z76 {m:Nat}(hb:RBodyP m) {k:Int}{l:List Tm}{a:Option Addr}{c:Nat}{cells:Nat→List Value}{H:Heap}(hk:i64 k) (rl:RepL H l a c cells) (hl:l.length≤64) (hs:∀t∈l,SizeOf.sizeOf t < m∧checkS t=0) (hw:H.wf) :
  EvF Tryz.prog okT 72 [.int .i64 k,.slice a l.length c] H (RBEnd H (subBF (bodyF m) k l)):=by
 have apB:apOk Tryz.prog 28 30 8:=ap28;refine EvF.enter rfl Tryz.func72 (by decide) rfl ?_;(repeat refine EvC.seq ?_);refine EvC.reg ?_;simp only[sA,initTm,dAlloc,zr30];obtain⟨H2,e2,hx2,g4,hn2,hw2⟩:=new1 hw (.row zero8 30);simp only[e2];clear e2;(repeat refine EvC.seq ?_);refine EvC.reg ?_;simp (disch:=first|omega|rfl) only[sB,dAlloc,Za,Zb,Value.cells,one,reduceCtorEq,Zk,layC,zr30,bd30,st30];obtain⟨H3,e3,hx3,g5,hn3,hw3⟩:=z0l hw2 (.row zero8 30) (.row [.int .i64 k,.int .i64 0,.string Ze,.string Ze,.int .u64 0,.int .i64 0,.slice none 0 0,.slice none 0 0] 30);simp only[e3];clear e3;rw[hn2] at g5 hn3;have g5:H3.get (H.next+1)=some (.row (eightT k zeroT none 0 none 0 0) 30):=g5;have g4:=hx3.get hw2 g4;have hx:=hx2.trans hx3;have hmax:=rl.max;(repeat refine EvC.seq ?_);refine EvC.reg ?_;simp only[sA];refine EvC.join (fun st=>∃tm G bs ao co,st=⟨tm,[],G⟩∧tm.get 4=some (.pointer (some ⟨H.next,0,none⟩))∧tm.get 6=some (.pointer (some ⟨H.next+1,0,none⟩))∧G.get H.next=some (.row zero8 30) ∧
  G.get (H.next+1)=some (.row (eightT k zeroT none 0 ao bs.length co) 30)∧subBL (bodyF m) l=some bs∧OBL G 30 25 (fun n=>H.next+2≤n∧n < G.next) bs ao co∧HX H G) ?_ ?_
 ·refine EvC.block (EvC.loop (fun k' st=>∃tm G i bs ao co,st=⟨tm,[],G⟩∧k'=l.length - i∧i≤l.length∧bs.length=i∧tm.get 1=some (.slice a l.length c)∧tm.get 4=some (.pointer (some ⟨H.next,0,none⟩))∧tm.get 6=some (.pointer (some ⟨H.next+1,0,none⟩)) ∧
   tm.get 7=some (.int .i64 (i:Nat))∧G.get H.next=some (.row zero8 30)∧G.get (H.next+1)=some (.row (eightT k zeroT none 0 ao i co) 30) ∧
   subBL (bodyF m) (l.take i)=some bs∧OBL G 30 25 (fun n=>H.next+2≤n∧n < G.next) bs ao co∧HX H G) ?_ l.length _ ?_)
  rotate_left
  ·exact⟨_,_,0,[],none,0,rfl,rfl,Zs _,rfl,(by simp only[sG,Za,reduceCtorEq]),(by simp only[sG,Za,reduceCtorEq]),by rw[←hn2];first|(simp only[sG,Za,reduceCtorEq];rfl)|simp only[sG,Za,reduceCtorEq],(by simp only[sB,Za,reduceCtorEq];rfl),g4,g5,rfl,.nil,hx⟩
  rintro k' st ⟨tm,G,i,bs,ao,co,rfl,rfl,hi,hbl,t1,t4,t6,t7,g4G,g5G,hsub,hobl,hxG⟩;have hwG:=hxG.wf;by_cases hlt:i < l.length;rotate_left
  ·repeat' (first|refine EvC.seq ?_|(refine EvC.exit ?_;try simp only[sB])|(refine EvC.reg ?_;simp only[sB,Za,ln23,t1,t7,decn hlt])|(refine EvC.condF ?_ ?_;simp only[sB,Za];refine z07 ?_))
   obtain rfl:i=l.length:=by omega
   rw[List.take_length] at hsub;exact⟨_,_,bs,ao,co,rfl,(by simp only[sG,Za,t4]),(by simp only[sG,Za,t6]),g4G,by rw[hbl];exact g5G,hsub,hobl,hxG⟩
  obtain⟨b,o,a1,c1,rfl,hld,hr1⟩:=rl.el hlt;have hld1:=hxG.load hw hld;have hsi:=hs l[i] (Zx _);subst hbl;have q5G:=row8 g5G;(repeat refine EvC.seq ?_);refine EvC.reg ?_;simp only[sB,Za,ln23,t1,t7,decl hlt];refine EvC.condT (by simp only[sB,Za]) ?_;(try refine EvC.skip ?_);(try simp only[z00,z01]);refine EvC.seq ?_;refine EvC.block ?_;(repeat refine EvC.seq ?_);refine EvC.reg ?_;simp (disch:=first|omega|rfl) only[sB,Za,ia23,ld25,cl45,t1,t7,hld1];refine(hb l[bs.length] _ G hsi.1 (hr1.mono hxG hw) hsi.2 hwG).mono ?_;rintro v H5 ⟨hx5,out,bd,rfl,hob,hbd⟩;obtain⟨ta,tc,sa,sc,rfl⟩:=hob.rep.eight;have n5:=hx5.next;try simp (disch:=first|omega|rfl) only[sB,dAlloc,Za,Zb,one,zr30,st30]
  obtain⟨H6,e6,hx6,g6,hn6,hw6⟩:=z0l hx5.wf (.row zero8 30) (.row (eightT bd.kind bd.term ta tc sa bd.sub.length sc) 30);simp only[e6];clear e6;have hx46:=hx5.trans hx6;have g46:=hx46.get hwG g4G;have g56:=hx46.get hwG g5G;have q6:=row8 g6;have q56:=row8 g56;have hlg:=hwG _ _ g5G;cases hbi:bodyF m l[bs.length] with
  |none =>
   rw[hbi] at hbd;(repeat refine EvC.seq ?_);refine EvC.reg ?_;simp only[sB,Za];refine EvC.condT (by simp only[sB,Za,Option.isSome_none,Zt]) ?_;(try refine EvC.skip ?_);(try simp only[z00,z01])
   repeat' (first|refine EvC.seq ?_|(refine EvC.ret ?_;try simp only[z04,z02])|(refine EvC.reg ?_;simp (disch:=first|omega|rfl) only[sB,Za,Zb,Value.cells,one,layC,bd30,st30,t4,g46]))
   refine z09 rfl (by simp only[sB,Za,t4];rfl) (by simp only[sB,Zb,cutC,ld30];rfl) (by simp only[sB,Za];rfl) ⟨(hxG.trans hx46).pt (Zg _) g46 _,_,zeroB,?_,OB.nil (by decide),?_⟩
   ·rw[show subBF (bodyF m) k l=none from by unfold subBF;rw[z72 (Zx _) hbi];rfl];rfl
   ·intro b hb;rw[show subBF (bodyF m) k l=none from by unfold subBF;rw[z72 (Zx _) hbi];rfl] at hb;cases hb
  |some bd' =>
   obtain rfl:=hbd bd' hbi;(repeat refine EvC.seq ?_);refine EvC.reg ?_;simp only[sB,Za];refine EvC.condF (by simp only[sB,Za,Option.isSome_some,Zp]) ?_;(try refine EvC.skip ?_);(try simp only[z00,z01]);refine EvC.reg ?_;try simp (disch:=first|omega|rfl) only[sB,Za,Zb,Value.cells,one,layC,z1k,ld28,ld30,zdx,t6,q56,q6]
   obtain⟨H7,e7,hx7,g7,hn7,hw7⟩:=new1 hw6 (.row (eightT bd.kind bd.term ta tc sa bd.sub.length sc) 30);simp only[e7];clear e7;have hx47:=hx46.trans hx7;have n7:=hx7.next;obtain⟨H8,e8,hobl8,hk8,hn8⟩:=OBL.push (N:=Rg G.next H5.next) (S2:=fun n=>H.next+2≤n∧n < H7.next+1) (c1:=1) apB (hobl.keep hx47) hw7 (ld1 g7 rfl) ((hob.keep hx6).keep hx7) (fun n hn hs=>by have:G.next≤n:=hn.1;have:=hs.2;omega) (fun n hn=>by have:=hn.2;omega)
    (fun n hn=>by have:=hn.2;omega) (by unfold most;omega) (fun n hn=>by
     rcases hn with hn|hn|hn
     ·exact⟨hn.1,by omega⟩
     ·exact⟨by have:G.next≤n:=hn.1;omega,by have:=hn.2;omega⟩
     ·exact⟨by omega,by omega⟩)
   have g58:=hk8.get hw7 (hx47.get hwG g5G) (fun hs=>by have:=hs.1;omega);have g48:=hk8.get hw7 (hx47.get hwG g4G) (fun hs=>by have:=hs.1;omega);have hx8:HX H H8:=(hxG.trans hx47).then hk8 fun n hn hs=>by have:=hs.1;omega
   repeat' (first|(refine EvC.reg ?_;simp (disch:=first|omega|rfl) only[sB,Za,t7,z0b])|(refine z0i ?_;simp (disch:=first|omega|rfl) only[sB,Za,Zb,one,z1k,st28,t6,e8,g58]))
   refine⟨l.length - (bs.length+1),by omega,_,_,bs.length+1,bs++[bd],some ⟨H7.next,0,none⟩,bs.length+1,rfl,rfl,by omega,by simp,(by simp only[sG,Za,t1]),(by simp only[sG,Za,t4]),(by simp only[sG,Za,t6]),(by simp only[sB,Za];rfl),by rw[get_put,if_neg (by omega)];exact g48,by rw[get_put,if_pos rfl],
    by rw[←ZA hlt];exact z68 hsub hbi,hobl8.to (fun n hn hl=>⟨by rw[get_put,if_neg (by omega)],by rw[z06];exact hl⟩) fun n hn=>⟨hn.1,by rw[z06,hn8];exact hn.2⟩,hx8.pt (by omega) g58 _⟩
 ·rintro st ⟨tm,G,bs,ao,co,rfl,t4,t6,g4G,g5G,hsub,hobl,hxG⟩;have q5:=row8 g5G
  repeat' (first|refine EvC.seq ?_|(refine EvC.ret ?_)|(refine EvC.reg ?_;simp (disch:=first|omega|rfl) only[sB,Za,Zb,one,st30,ld30,t4,t6,q5,g4G]))
  have hsb:subBF (bodyF m) k l=some (.mk k zeroT bs):=by unfold subBF;rw[hsub];rfl
  refine z09 rfl (by simp only[sB,Za,t4];rfl) (by simp only[sB,Zb,cutC,ld30];rfl) (by simp only[sB,Za];rfl) ⟨hxG.pt (Zg _) g4G _,_,.mk k zeroT bs,by rw[hsb];rfl,OBL.mk (ts:=six zeroT none 0) (hobl.to (fun n hn hl=>⟨by rw[get_put,if_neg (by omega)],by rw[z06];exact hl⟩) fun n hn=>⟨by omega,by rw[z06];exact hn.2⟩) hk (RepS.leaf z52 rfl (Zs _) (fun _=>rfl)) rfl,fun b hb=>by rw[hsb] at hb;cases hb;rfl⟩
theorem OBL.one {H:Heap}{TB TT:TypeId}{S N:Nat→Prop}{u:Bdy}{cs:List Value}{b:Nat}(hg:H.get b=some (.row cs TB)) (hu:OB H TB TT N u cs) (hw:H.wf) (hS:S b) (hN:∀n,N n→S n) (hb:¬N b):OBL H TB TT S [u] (some ⟨b,0,none⟩) 1:=by
 obtain⟨hone,hlen⟩:=hu.rep.ones;refine .inr ⟨b,cs,fun _=>N,rfl,Zg _,by decide,hg,hS,hw _ _ hg,by simp [hlen],fun i v hv=>?_,fun i _=>hb,fun i n _ hn=>hN n hn,fun i j n hi hj _ _=>by simp at hi hj;omega⟩
 match i,hv with
 |0,hv =>
  cases hv;rw[Zu,List.drop_zero,Zi (by omega)];exact hu
theorem repX {H:Heap}{x:Tm}{a:Option Addr}{c:Nat}{S:Nat→Prop}(r:RepT H x (six x a c)) (hx:x.args=[]) {H':Heap}:RepS H' S x (six x a c):=by
 obtain⟨ax,cx,cellsx,ee,-,-,-,-,-,rlx⟩:=r.six;obtain⟨-,-,-,-,-,rfl,rfl⟩:=z4h ee;exact RepS.leaf r.bd hx rlx.cap fun h=>(rlx.nil h).2
set_option maxHeartbeats 8000000 in
theorem zjm {m:Nat}(hb:RBodyP m) {t:Tm}{cs:List Value}{H:Heap}(hs:SizeOf.sizeOf t < m+1) (r:RepT H t cs) (h2:t.args.length=2) (hc:checkS t=0) (hw:H.wf) :
  EvF Tryz.prog okT 71 [.agg ⟨cs⟩] H (RBEnd H (withinF (bodyF m) t)):=by
 have r0:=r;obtain⟨a,c,cells,rfl,-,-,-,-,-,rl⟩:=r.six;obtain⟨x,y,hxy⟩:∃x y,t.args=[x,y]:=by
  match hl:t.args,h2 with
  |[x,y],_=>exact⟨x,y,rfl⟩
 have ex:t.at 0=x:=by unfold Tm.at;rw[hxy];rfl
 have ey:t.at 1=y:=by unfold Tm.at;rw[hxy];rfl
 have g0:t.args[0]'(by omega)=x:=by simp [hxy]
 have g1:t.args[1]'(by omega)=y:=by simp [hxy]
 obtain⟨b,o,a1,c1,rfl,hld0,hr0⟩:=rl.el (i:=0) (by omega);obtain⟨b',o',a2,c2,e2,hld1,hr1⟩:=rl.el (i:=1) (by omega);cases e2;rw[g0] at hld0 hr0;rw[g1] at hld1 hr1;simp only[Zu,Nat.add_zero,ZL] at hld0 hld1;have hcx:=z0p hc (u:=x) (by rw[hxy];simp);have hcy:=z0p hc (u:=y) (by rw[hxy];simp);have hsy:SizeOf.sizeOf y < SizeOf.sizeOf t:=z0d (by rw[hxy];simp);refine EvF.enter rfl Tryz.func71 (by decide) rfl ?_;(repeat refine EvC.seq ?_);refine EvC.reg ?_;simp (disch:=first|omega|rfl) only[sB,initTm,dBox,dAlloc,Value.cells,one,zr30];obtain⟨H2,e2,hx2,gt,gq,hn2,hw2⟩:=new2 hw (.row (six t (some ⟨b,o,none⟩) c) 25) (.row zero8 30);simp only[e2];clear e2;have qt:=row6 gt;have l0:=hx2.load hw hld0;(repeat refine EvC.seq ?_);refine EvC.reg ?_;simp (disch:=first|omega|rfl) only[sB,dAlloc,Za,Zb,one,reduceCtorEq,Zv,z0j,ld23,ld25,zr25,st25,qt,l0,iz23,Zu];obtain⟨H3,e3,hx3,gx,hn3,hw3⟩:=z0l hw2 (.row zero6 25) (.row (six x a1 c1) 25);simp only[e3];clear e3;have qt3:=row6 (hx3.get hw2 gt);have l1:=(hx2.trans hx3).load hw hld1
 (repeat refine EvC.seq ?_);refine EvC.reg ?_;simp (disch:=first|omega|rfl) only[sB,dAlloc,Za,Zb,one,reduceCtorEq,Zv,z0j,ld23,ld25,zr25,st25,qt3,l1,iz23,ZL];obtain⟨H4,e4,hx4,gy,hn4,hw4⟩:=z0l hw3 (.row zero6 25) (.row (six y a2 c2) 25);simp only[e4];clear e4;have hx34:=hx3.trans hx4;have gx:=hx4.get hw3 gx;have gt:=hx34.get hw2 gt;have gq:=hx34.get hw2 gq;have hx:=hx2.trans hx34;have qy:=row6 gy;(repeat refine EvC.seq ?_);refine EvC.meet (fun st=>∃tm G,st=⟨tm,[],G⟩∧tm.get 1=some (.pointer (some ⟨H.next,0,none⟩))∧tm.get 2=some (.pointer (some ⟨H.next+1,0,none⟩))∧tm.get 4=some (.pointer (some ⟨H2.next,0,none⟩))∧tm.get 5=some (.pointer (some ⟨H3.next,0,none⟩)) ∧
  tm.get 27=some (.bool (decide (isNum y∨(x.kind≠2∧x.kind≠1))))∧G.get H.next=some (.row (six t (some ⟨b,o,none⟩) c) 25)∧G.get (H.next+1)=some (.row zero8 30)∧G.get H2.next=some (.row (six x a1 c1) 25)∧G.get H3.next=some (.row (six y a2 c2) 25)∧HX H G) ?_ ?_
 ·refine EvC.reg ?_;simp only[sB,Za,reduceCtorEq,ld25,cl44,qy];refine(zg6 (hr1.mono hx hw) hx.wf).mono ?_;rintro v H5 ⟨rfl,hx5⟩;have gx5:=hx5.get hx.wf gx;have qx5:=row6 gx5;by_cases hn:isNum y
  ·have hd:decide (isNum y)=true:=decide_eq_true hn;have hdd:decide (isNum y∨(x.kind≠2∧x.kind≠1))=true:=decide_eq_true (.inl hn);try simp only[sB,Za,reduceCtorEq,hd]
   exact⟨_,_,rfl,(by simp only[sG,Za,reduceCtorEq]),(by simp only[sG,Za,reduceCtorEq]),(by simp only[sG,Za,reduceCtorEq]),(by simp only[sG,Za,reduceCtorEq]),by rw[hdd];first|(simp only[sG,Za,reduceCtorEq];rfl)|simp only[sG,Za,reduceCtorEq],hx5.get hx.wf gt,hx5.get hx.wf gq,gx5,hx5.get hx.wf gy,hx.trans hx5⟩
  have hd:decide (isNum y)=false:=decide_eq_false hn;by_cases x2:x.kind=2
  ·have hdd:decide (isNum y∨(x.kind≠2∧x.kind≠1))=false:=decide_eq_false fun h=>by rcases h with h|h;exact hn h;exact h.1 x2
   try simp only[sB,Za,reduceCtorEq,z0g,ld3,hd,qx5,z0z x2,Zd]
   exact⟨_,_,rfl,(by simp only[sG,Za,reduceCtorEq]),(by simp only[sG,Za,reduceCtorEq]),(by simp only[sG,Za,reduceCtorEq]),(by simp only[sG,Za,reduceCtorEq]),by rw[hdd];first|(simp only[sG,Za,reduceCtorEq];rfl)|simp only[sG,Za,reduceCtorEq],hx5.get hx.wf gt,hx5.get hx.wf gq,gx5,hx5.get hx.wf gy,hx.trans hx5⟩
  by_cases x1:x.kind=1
  ·have hdd:decide (isNum y∨(x.kind≠2∧x.kind≠1))=false:=decide_eq_false fun h=>by rcases h with h|h;exact hn h;exact h.2 x1
   try simp only[sB,Za,reduceCtorEq,z0g,ld3,hd,qx5,z1j x2,z0z x1,Zd]
   exact⟨_,_,rfl,(by simp only[sG,Za,reduceCtorEq]),(by simp only[sG,Za,reduceCtorEq]),(by simp only[sG,Za,reduceCtorEq]),(by simp only[sG,Za,reduceCtorEq]),by rw[hdd];first|(simp only[sG,Za,reduceCtorEq];rfl)|simp only[sG,Za,reduceCtorEq],hx5.get hx.wf gt,hx5.get hx.wf gq,gx5,hx5.get hx.wf gy,hx.trans hx5⟩
  ·have hdd:decide (isNum y∨(x.kind≠2∧x.kind≠1))=true:=decide_eq_true (.inr ⟨x2,x1⟩);try simp only[sB,Za,reduceCtorEq,z0g,ld3,hd,qx5,z1j x2,z1j x1,Zd]
   exact⟨_,_,rfl,(by simp only[sG,Za,reduceCtorEq]),(by simp only[sG,Za,reduceCtorEq]),(by simp only[sG,Za,reduceCtorEq]),(by simp only[sG,Za,reduceCtorEq]),by rw[hdd];first|(simp only[sG,Za,reduceCtorEq];rfl)|simp only[sG,Za,reduceCtorEq],hx5.get hx.wf gt,hx5.get hx.wf gq,gx5,hx5.get hx.wf gy,hx.trans hx5⟩
 clear hw4 hw3 hx3 hx4 hx34 hn3 hn4 qt qt3 qy l0 l1 gt gq gx gy hx;rintro st ⟨tm,G,rfl,t1,t2,t4,t5,tc,gt,gq,gx,gy,hx⟩;have hwG:=hx.wf;have qx:=row6 gx;have qy:=row6 gy;have qt:=row6 gt;have lq:=hwG _ _ gq;have nG:=hx.next;simp only[z00];by_cases hbad:isNum y∨(x.kind≠2∧x.kind≠1)
 ·have hd:=decide_eq_true hbad;have hwn:withinF (bodyF m) t=none:=by unfold withinF;rw[ex,ey,if_pos hbad]
  refine EvC.condT (by simp only[sA,tc,hd]) ?_;(try refine EvC.skip ?_);(try simp only[z00,z01])
  repeat' (first|refine EvC.seq ?_|(refine EvC.ret ?_;try simp only[z04,z02])|(refine EvC.reg ?_;simp (disch:=first|omega|rfl) only[sB,Za,Zb,Value.cells,one,layC,bd30,st30,t2,gq]))
  refine z09 rfl (by simp only[sB,Za,t2];rfl) (by simp only[sB,Zb,cutC,ld30];rfl) (by simp only[sB,Za];rfl) ⟨hx.pt (by omega) gq _,_,zeroB,by rw[hwn];rfl,OB.nil (by decide),fun b h=>by rw[hwn] at h;cases h⟩
 have hd:=decide_eq_false hbad;refine EvC.condF (by simp only[sA,tc,hd]) ?_;(try refine EvC.skip ?_);(try simp only[z00,z01]);clear hd tc;by_cases hcl:x.kind=1∨y.kind=1
 ·have hwn:withinF (bodyF m) t=some (callB t):=by unfold withinF;rw[ex,ey,if_neg hbad,if_pos hcl]
  (repeat refine EvC.seq ?_);refine EvC.meet (fun st=>∃tm',st=⟨tm',[],G⟩∧tm'.get 1=some (.pointer (some ⟨H.next,0,none⟩))∧tm'.get 2=some (.pointer (some ⟨H.next+1,0,none⟩))∧tm'.get 36=some (.bool true)) ?_ ?_
  ·by_cases x1:x.kind=1
   ·refine EvC.reg ?_;simp only[sB,Za,z0g,ld3,t4,qx,z0k x1];exact⟨_,rfl,(by simp only[sG,Za,t1]),(by simp only[sG,Za,t2]),by first|(simp only[sG,Za];rfl)|simp only[sG,Za]⟩
   ·have y1:=hcl.resolve_left x1;refine EvC.reg ?_;simp only[sB,Za,z0g,ld3,t4,t5,qx,qy,z0m x1,z0k y1,Zd];exact⟨_,rfl,(by simp only[sG,Za,t1]),(by simp only[sG,Za,t2]),by first|(simp only[sG,Za];rfl)|simp only[sG,Za]⟩
  rintro st ⟨tm,rfl,t1,t2,t36⟩;simp only[z00];refine EvC.condT (by simp only[sA,t36]) ?_;(try refine EvC.skip ?_);(try simp only[z00,z01]);(repeat refine EvC.seq ?_);refine EvC.reg ?_;simp only[sB,Za,ld25,cl70,t1,qt];refine(zi5 (r0.mono hx hw) hc hwG).mono ?_;rintro v H5 ⟨hx5,out,rfl,hob⟩;obtain⟨ta,tc,sa,sc,rfl⟩:=hob.rep.eight;have gq5:=hx5.get hwG gq;have n5:=hx5.next
  repeat' (first|(refine EvC.ret ?_;try simp only[z04,z02])|(refine z0i ?_;simp (disch:=first|omega|rfl) only[sB,Zb,one,st30,t2,gq5]))
  refine z09 rfl (by simp only[sB,Za,t2];rfl) (by simp only[sB,Zb,cutC,ld30];rfl) (by simp only[sB,Za];rfl) ⟨(hx.trans hx5).pt (by omega) gq5 _,_,callB t,by rw[hwn];rfl,hob.to (fun n hn hl=>⟨by have:=hn.1;rw[get_put,if_neg (by omega)],by rw[z06];exact hl⟩) fun n hn=>⟨by have:=hn.1;omega,by rw[z06];exact hn.2⟩,fun b h=>by rw[hwn] at h;cases h;rfl⟩
 have x1:¬x.kind=1:=fun h=>hcl (.inl h)
 have y1:¬y.kind=1:=fun h=>hcl (.inr h)
 have hwn:withinF (bodyF m) t=(bodyF m y).map fun b=>.mk 7 x [b]:=by unfold withinF;rw[ex,ey,if_neg hbad,if_neg hcl]
 have hx2k:x.kind=2:=by
  by_cases h:x.kind=2
  ·exact h
  ·exact absurd (.inr ⟨h,x1⟩) hbad
 have hxa:x.args=[]:=by
  have k:=z22 (z0e.1 hcx).2.node;exact(z1v k.2.2.1).2.2.2.2 (by omega)
 (repeat refine EvC.seq ?_);refine EvC.reg ?_;simp only[sB,Za,z0g,ld3,t4,t5,qx,qy,z0m x1,z0m y1,Zd];refine EvC.condF (by simp only[sB,Za]) ?_;(try refine EvC.skip ?_);(try simp only[z00,z01]);(repeat refine EvC.seq ?_);refine EvC.reg ?_;simp only[sB,Za,ld25,cl45,t5,qy];refine(hb y _ G (by omega) (hr1.mono hx hw) hcy hwG).mono ?_;rintro v H5 ⟨hx5,out,bd,rfl,hob,hbd⟩;obtain⟨ta,tc,sa,sc,rfl⟩:=hob.rep.eight;have n5:=hx5.next;try simp (disch:=first|omega|rfl) only[sB,dAlloc,Za,Zb,one,zr30,st30]
 obtain⟨H6,e6,hx6,g6,hn6,hw6⟩:=z0l hx5.wf (.row zero8 30) (.row (eightT bd.kind bd.term ta tc sa bd.sub.length sc) 30);simp only[e6];clear e6;have hxf:=(hx.trans hx5).trans hx6;have hx56:=hx5.trans hx6;have q6:=row8 g6;have qx6:=row6 (hx56.get hwG gx);have gq6:=hx56.get hwG gq;have lq6:=hw6 _ _ gq6;(repeat refine EvC.seq ?_);refine EvC.drw [([(0,0)],some 1),([(2,0),(3,0),(4,1)],some 6),([(5,0),(7,2)],none)] (by kernel_rfl) ?_;simp only[sD,sB,Za,Zb,reduceCtorEq,ld25,cl6,isAlloc,isRead,t4,qx6];have hxb:HX H6 ⟨H6.next+8,H6.t⟩:=(HX.refl hw6).bump 8;refine(z3o ((hr0.mono hxf hw).mono hxb hw6) (few6 hcx) hxb.wf).mono ?_;rintro v H7 ⟨hx7,outx,rfl,hot⟩;obtain⟨a7,c7,cells7,rfl,-⟩:=hot.rep.six;have n7:H6.next+8≤H7.next:=hx7.next;have hx67:=hxb.trans hx7;have q67:=row8 (hx67.get hw6 g6);obtain⟨H8,e8⟩:∃H8,H7.put (H6.next+3) (some (.row (eightT bd.kind bd.term ta tc sa bd.sub.length sc) 30))=H8:=⟨_,rfl⟩
 have hx8:HX H6 H8:=by rw[←e8];exact hx67.put (by omega) (by omega) _
 have n8:H8.next=H7.next:=by rw[←e8];rfl
 have g8:H8.get (H6.next+3)=some (.row (eightT bd.kind bd.term ta tc sa bd.sub.length sc) 30):=by rw[←e8,get_put,if_pos rfl]
 have gq8:=hx8.get hw6 gq6
 repeat' (first|(refine EvC.ret ?_)|(refine z0h ?_;simp (disch:=first|omega|rfl) only[sV,sD,sB,Za,Zb,Value.cells,one,reduceCtorEq,Zk,layC,bd30,st30,ld30,zdx,t2,q6,q67,e8,gq8,isAlloc,isRead,dalloc]))
 have hfin:=(hxf.trans hx8).pt (i:=H.next+1) (by omega) gq8 (some (.row (eightT 7 x a7 c7 (some ⟨H6.next+3,0,none⟩) 1 1) 30));have hob8:OB H8 30 25 (Rg G.next H5.next) bd (eightT bd.kind bd.term ta tc sa bd.sub.length sc):=((hob.keep hx6).keep hx8)
 have hobf:OB (H8.put (H.next+1) (some (.row (eightT 7 x a7 c7 (some ⟨H6.next+3,0,none⟩) 1 1) 30))) 30 25 (Rg H.next H8.next) (.mk 7 x [bd]) (eightT 7 x a7 c7 (some ⟨H6.next+3,0,none⟩) 1 1):=by
  have h1:OBL H8 30 25 (fun n=>Rg H.next H8.next n∧n≠H.next+1) [bd] (some ⟨H6.next+3,0,none⟩) 1:=OBL.one g8 hob8 hx8.wf ⟨⟨by omega,by omega⟩,by omega⟩ (fun n hn=>⟨⟨by have:=hn.1;omega,by have:=hn.2;omega⟩,by have:=hn.1;omega⟩) (fun h=>by have:=h.2;omega);exact OBL.mk (k:=7) (t:=x) (ts:=six x a7 c7) (h1.to (fun n hn hl=>⟨by rw[get_put,if_neg hn.2],by rw[z06];exact hl⟩) fun n hn=>hn.1) (by decide) (repX hot.rep hxa) hxa
 cases hby:bodyF m y with
 |none =>
  rw[hby] at hwn;refine z09 rfl (by simp only[sB,Za,t2];rfl) (by simp only[sB,Zb,cutC,ld30];rfl) (by simp only[sB,Za];rfl) ⟨hfin,_,.mk 7 x [bd],by rw[hwn];rfl,hobf,fun b h=>by rw[hwn] at h;cases h⟩
 |some bd' =>
  rw[hby] at hwn;obtain rfl:=hbd bd' hby;refine z09 rfl (by simp only[sB,Za,t2];rfl) (by simp only[sB,Zb,cutC,ld30];rfl) (by simp only[sB,Za];rfl) ⟨hfin,_,.mk 7 x [bd],by rw[hwn];rfl,hobf,fun b h=>by rw[hwn] at h;cases h;rfl⟩
set_option maxHeartbeats 16000000 in
theorem zmf {m:Nat}(hb:RBodyP m) {t:Tm}{cs:List Value}{H:Heap}(hs:SizeOf.sizeOf t < m+1) (r:RepT H t cs) (hc:checkS t=0) (hw:H.wf) :
  EvF Tryz.prog okT 45 [.agg ⟨cs⟩] H (RBEnd H (bodyF (m+1) t)):=by
 have r0:=r;have hf:=(z0e.1 hc).2;have hfew:=z4g hf;have hlf:∀{u:Tm},u∈t.args→SizeOf.sizeOf u < m∧checkS u=0:=fun hu=>⟨by have:=z0d hu;omega,z0p hc hu⟩
 obtain⟨a,c,cells,rfl,-,-,-,-,-,rl⟩:=r.six;refine EvF.enter rfl Tryz.func45 (by decide) rfl ?_;(repeat refine EvC.seq ?_);refine EvC.reg ?_;simp (disch:=first|omega|rfl) only[sB,initTm,dBox,dAlloc,Value.cells,one,zr30];obtain⟨H2,e2,hx,gt,gq,hn2,hw2⟩:=new2 hw (.row (six t a c) 25) (.row zero8 30);simp only[e2];clear e2;have qt:=row6 gt;(repeat refine EvC.seq ?_);refine EvC.reg ?_;simp only[sB,Za,reduceCtorEq,ld25,cl44,qt];refine(zg6 (r0.mono hx hw) hx.wf).mono ?_;clear qt;rintro v H3 ⟨rfl,hx3⟩;replace gt:=hx3.get hx.wf gt;replace gq:=hx3.get hx.wf gq;replace hx:=hx.trans hx3;clear hx3;have qt:=row6 gt;have lt:=hx.wf _ _ gq;by_cases hn:isNum t
 ·have hd:decide (isNum t)=true:=decide_eq_true hn;have hbd:bodyF (m+1) t=none:=zep hn;try simp only[]
  refine EvC.condT (by simp only[sB,Za,reduceCtorEq,hd]) ?_;(try refine EvC.skip ?_);(try simp only[z00,z01])
  repeat' (first|refine EvC.seq ?_|(refine EvC.ret ?_;try simp only[z04,z02])|(refine EvC.reg ?_;simp (disch:=first|omega|rfl) only[sB,Za,Zb,Value.cells,one,reduceCtorEq,layC,bd30,st30,gq]))
  refine z09 rfl (by simp only[sB,Za,reduceCtorEq];rfl) (by simp only[sB,Zb,cutC,ld30];rfl) (by simp only[sB,Za,reduceCtorEq];rfl) ⟨hx.pt (by omega) gq _,_,zeroB,by rw[hbd];rfl,OB.nil (by decide),fun b h=>by rw[hbd] at h;cases h⟩
 have hd:decide (isNum t)=false:=decide_eq_false hn;try simp only[]
 refine EvC.condF (by simp only[sB,Za,reduceCtorEq,hd]) ?_;(try refine EvC.skip ?_);(try simp only[z00,z01]);clear hd;refine EvC.frame (fun tm=>tm.get 1=some (.pointer (some ⟨H.next,0,none⟩))∧tm.get 2=some (.pointer (some ⟨H.next+1,0,none⟩))) ⟨(by simp only[sG,Za,reduceCtorEq]),(by simp only[sG,Za,reduceCtorEq])⟩ ?_;rintro tm ⟨t1,t2⟩;by_cases k1:t.kind=1
 ·have hbd:bodyF (m+1) t=some (callB t):=by rw[bodyF,if_neg hn,if_pos k1]
  (repeat refine EvC.seq ?_);refine EvC.reg ?_;simp only[sB,Za,z0g,ld3,t1,qt,z0k k1];refine EvC.condT (by simp only[sB,Za]) ?_;(try refine EvC.skip ?_);(try simp only[z00,z01]);(repeat refine EvC.seq ?_);refine EvC.reg ?_;simp only[sB,Za,ld25,cl70,t1,qt];refine(zi5 (r0.mono hx hw) hc hx.wf).mono ?_;rintro v H5 ⟨hx5,out,rfl,hob⟩;obtain⟨ta,tc,sa,sc,rfl⟩:=hob.rep.eight;have gq5:=hx5.get hx.wf gq;have n5:=hx5.next;have nx:=hx.next
  repeat' (first|(refine EvC.ret ?_;try simp only[z04,z02])|(refine z0i ?_;simp (disch:=first|omega|rfl) only[sB,Zb,one,st30,t2,gq5]))
  refine z09 rfl (by simp only[sB,Za,t2];rfl) (by simp only[sB,Zb,cutC,ld30];rfl) (by simp only[sB,Za];rfl) ⟨(hx.trans hx5).pt (by omega) gq5 _,_,callB t,by rw[hbd];rfl,?_,fun b h=>by rw[hbd] at h;cases h;rfl⟩;exact hob.to (fun n hn hl=>⟨by have:=hn.1;rw[get_put,if_neg (by omega)],by rw[z06];exact hl⟩) fun n hn=>⟨by have:=hn.1;omega,by rw[z06];exact hn.2⟩
 (repeat refine EvC.seq ?_);refine EvC.reg ?_;simp only[sB,Za,z0g,ld3,t1,qt,z0m k1];refine EvC.condF (by simp only[sB,Za]) ?_;(try refine EvC.skip ?_);(try simp only[z00,z01]);refine EvC.frame (fun tm=>tm.get 1=some (.pointer (some ⟨H.next,0,none⟩))∧tm.get 2=some (.pointer (some ⟨H.next+1,0,none⟩))) ⟨(by simp only[sG,Za,t1]),(by simp only[sG,Za,t2])⟩ ?_;clear t1 t2 tm;rintro tm ⟨t1,t2⟩;by_cases ktrue:t.kind=2∧t.name=sTrue
 ·have hbd:bodyF (m+1) t=some (.mk 1 zeroT []):=by rw[bodyF,if_neg hn,if_neg k1,if_pos ktrue]
  (repeat refine EvC.seq ?_);refine EvC.reg ?_;simp only[sB,Za,z0g,ld3,z16,ld9,t1,qt,z0k ktrue.1,z13,z86 ktrue.2];refine EvC.condT (by simp only[sB,Za]) ?_;(try refine EvC.skip ?_);(try simp only[z00,z01]);have lq:=hx.wf _ _ gq
  repeat' (first|refine EvC.seq ?_|(refine EvC.ret ?_;try simp only[z04,z02])|(refine EvC.reg ?_;simp (disch:=first|omega|rfl) only[sB,Za,Zb,Value.cells,one,Zk,layC,bd30,st30,t2,gq]))
  refine z09 rfl (by simp only[sB,Za,t2];rfl) (by simp only[sB,Zb,cutC,ld30];rfl) (by simp only[sB,Za];rfl) ⟨hx.pt (by omega) gq _,_,.mk 1 zeroT [],by rw[hbd];rfl,OB.nil (by decide),fun b h=>by rw[hbd] at h;cases h;rfl⟩
 (repeat refine EvC.seq ?_);refine EvC.meet (fun st=>∃tm',st=⟨tm',[],H3⟩∧tm'.get 1=some (.pointer (some ⟨H.next,0,none⟩))∧tm'.get 2=some (.pointer (some ⟨H.next+1,0,none⟩))∧tm'.get 19=some (.bool false)) ?_ ?_
 ·by_cases k2:t.kind=2
  ·have kn:t.name≠sTrue:=fun h=>ktrue ⟨k2,h⟩
   refine EvC.reg ?_;simp only[sB,Za,z0g,ld3,z16,ld9,t1,qt,z0k k2,z13,zb3 kn];exact⟨_,rfl,(by simp only[sG,Za,t1]),(by simp only[sG,Za,t2]),by first|(simp only[sG,Za];rfl)|simp only[sG,Za]⟩
  ·refine EvC.reg ?_;simp only[sB,Za,z0g,ld3,t1,qt,z0m k2,Zd];exact⟨_,rfl,(by simp only[sG,Za,t1]),(by simp only[sG,Za,t2]),by first|(simp only[sG,Za];rfl)|simp only[sG,Za]⟩
 clear t1 t2 tm;rintro st ⟨tm,rfl,t1,t2,tc⟩;simp only[z00];refine EvC.condF (by simp only[sA,tc]) ?_;(try refine EvC.skip ?_);(try simp only[z00,z01]);clear tc;by_cases kexc:t.kind=2∧t.name=sExc
 ·have hbd:bodyF (m+1) t=some (.mk 2 zeroT []):=by rw[bodyF,if_neg hn,if_neg k1,if_neg ktrue,if_pos kexc]
  (repeat refine EvC.seq ?_);refine EvC.reg ?_;simp only[sB,Za,z0g,ld3,z16,ld9,t1,qt,z0k kexc.1,z13,z86 kexc.2];refine EvC.condT (by simp only[sB,Za]) ?_;(try refine EvC.skip ?_);(try simp only[z00,z01]);have lq:=hx.wf _ _ gq
  repeat' (first|refine EvC.seq ?_|(refine EvC.ret ?_;try simp only[z04,z02])|(refine EvC.reg ?_;simp (disch:=first|omega|rfl) only[sB,Za,Zb,Value.cells,one,Zk,layC,bd30,st30,t2,gq]))
  refine z09 rfl (by simp only[sB,Za,t2];rfl) (by simp only[sB,Zb,cutC,ld30];rfl) (by simp only[sB,Za];rfl) ⟨hx.pt (by omega) gq _,_,.mk 2 zeroT [],by rw[hbd];rfl,OB.nil (by decide),fun b h=>by rw[hbd] at h;cases h;rfl⟩
 (repeat refine EvC.seq ?_);refine EvC.meet (fun st=>∃tm',st=⟨tm',[],H3⟩∧tm'.get 1=some (.pointer (some ⟨H.next,0,none⟩))∧tm'.get 2=some (.pointer (some ⟨H.next+1,0,none⟩))∧tm'.get 28=some (.bool false)) ?_ ?_
 ·by_cases k2:t.kind=2
  ·have kn:t.name≠sExc:=fun h=>kexc ⟨k2,h⟩
   refine EvC.reg ?_;simp only[sB,Za,z0g,ld3,z16,ld9,t1,qt,z0k k2,z13,zb3 kn];exact⟨_,rfl,(by simp only[sG,Za,t1]),(by simp only[sG,Za,t2]),by first|(simp only[sG,Za];rfl)|simp only[sG,Za]⟩
  ·refine EvC.reg ?_;simp only[sB,Za,z0g,ld3,t1,qt,z0m k2,Zd];exact⟨_,rfl,(by simp only[sG,Za,t1]),(by simp only[sG,Za,t2]),by first|(simp only[sG,Za];rfl)|simp only[sG,Za]⟩
 clear t1 t2 tm;rintro st ⟨tm,rfl,t1,t2,tc⟩;simp only[z00];refine EvC.condF (by simp only[sA,tc]) ?_;(try refine EvC.skip ?_);(try simp only[z00,z01]);clear tc;(repeat refine EvC.seq ?_);refine EvC.reg ?_;simp only[sB,ld25,cl42,t1,qt];refine(z88 (s:=sCol) (r0.mono hx hw) hx.wf).mono ?_;clear qt;rintro v G1 ⟨rfl,hx3⟩;replace gt:=hx3.get hx.wf gt;replace gq:=hx3.get hx.wf gq;replace hx:=hx.trans hx3;clear hx3;have qt:=row6 gt;by_cases hF:isF t sCol
 ·have hd:decide (isF t sCol)=true:=decide_eq_true hF;have hbd:bodyF (m+1) t=withinF (bodyF m) t:=by rw[bodyF,if_neg hn,if_neg k1,if_neg ktrue,if_neg kexc,if_pos hF]
  try simp only[]
  refine EvC.condT (by simp only[sB,Za,hd]) ?_;(try refine EvC.skip ?_);(try simp only[z00,z01]);(repeat refine EvC.seq ?_);refine EvC.reg ?_;simp only[sB,Za,ld25,cl71,t1,qt];refine(zjm hb hs (r0.mono hx hw) hF.2.2 hc hx.wf).mono ?_;rintro v H5 ⟨hx5,out,bd,rfl,hob,hbdd⟩;obtain⟨ta,tc,sa,sc,rfl⟩:=hob.rep.eight;have gq5:=hx5.get hx.wf gq;have n5:=hx5.next;have nx:=hx.next;have lq:=hx.wf _ _ gq
  repeat' (first|(refine EvC.ret ?_;try simp only[z04,z02])|(refine z0i ?_;simp (disch:=first|omega|rfl) only[sB,Za,Zb,one,st30,t2,gq5]))
  refine z09 rfl (by simp only[sB,Za,t2];rfl) (by simp only[sB,Zb,cutC,ld30];rfl) (by simp only[sB,Za];rfl) ⟨(hx.trans hx5).pt (by omega) gq5 _,_,bd,by rw[hbd],?_,fun b h=>hbdd b (by rw[←hbd];exact h)⟩;exact hob.to (fun n hn hl=>⟨by have:=hn.1;rw[get_put,if_neg (by omega)],by rw[z06];exact hl⟩) fun n hn=>⟨by have:=hn.1;omega,by rw[z06];exact hn.2⟩
 have fcol:=hF;clear hF;have hd:decide (isF t sCol)=false:=decide_eq_false fcol;try simp only[]
 refine EvC.condF (by simp only[sB,Za,hd]) ?_;(try refine EvC.skip ?_);(try simp only[z00,z01]);clear hd;refine EvC.frame (fun tm=>tm.get 1=some (.pointer (some ⟨H.next,0,none⟩))∧tm.get 2=some (.pointer (some ⟨H.next+1,0,none⟩))) ⟨(by simp only[sG,Za,t1]),(by simp only[sG,Za,t2])⟩ ?_;clear t1 t2 tm;rintro tm ⟨t1,t2⟩;(repeat refine EvC.seq ?_);refine EvC.reg ?_;simp only[sB,ld25,cl42,t1,qt];refine(z88 (s:=sCma) (r0.mono hx hw) hx.wf).mono ?_;clear qt;rintro v G2 ⟨rfl,hx3⟩;replace gt:=hx3.get hx.wf gt;replace gq:=hx3.get hx.wf gq;replace hx:=hx.trans hx3;clear hx3;have qt:=row6 gt;by_cases hF:isF t sCma
 ·have hd:decide (isF t sCma)=true:=decide_eq_true hF;have hbd:bodyF (m+1) t=subBF (bodyF m) 4 t.args:=by rw[bodyF,if_neg hn,if_neg k1,if_neg ktrue,if_neg kexc,if_neg fcol,if_pos hF]
  try simp only[]
  refine EvC.condT (by simp only[sB,Za,hd]) ?_;(try refine EvC.skip ?_);(try simp only[z00,z01]);(repeat refine EvC.seq ?_);refine EvC.reg ?_;simp only[sB,Za,z0j,ld23,cl72,t1,qt];refine(z76 hb (k:=4) (by decide) (rl.mono hx hw) hfew (fun u hu=>hlf hu) hx.wf).mono ?_;rintro v H5 ⟨hx5,out,bd,rfl,hob,hbdd⟩;obtain⟨ta,tc,sa,sc,rfl⟩:=hob.rep.eight;have gq5:=hx5.get hx.wf gq;have n5:=hx5.next;have nx:=hx.next;have lq:=hx.wf _ _ gq
  repeat' (first|(refine EvC.ret ?_;try simp only[z04,z02])|(refine z0i ?_;simp (disch:=first|omega|rfl) only[sB,Za,Zb,one,st30,t2,gq5]))
  refine z09 rfl (by simp only[sB,Za,t2];rfl) (by simp only[sB,Zb,cutC,ld30];rfl) (by simp only[sB,Za];rfl) ⟨(hx.trans hx5).pt (by omega) gq5 _,_,bd,by rw[hbd],?_,fun b h=>hbdd b (by rw[←hbd];exact h)⟩;exact hob.to (fun n hn hl=>⟨by have:=hn.1;rw[get_put,if_neg (by omega)],by rw[z06];exact hl⟩) fun n hn=>⟨by have:=hn.1;omega,by rw[z06];exact hn.2⟩
 have fcma:=hF;clear hF;have hd:decide (isF t sCma)=false:=decide_eq_false fcma;try simp only[]
 refine EvC.condF (by simp only[sB,Za,hd]) ?_;(try refine EvC.skip ?_);(try simp only[z00,z01]);clear hd;refine EvC.frame (fun tm=>tm.get 1=some (.pointer (some ⟨H.next,0,none⟩))∧tm.get 2=some (.pointer (some ⟨H.next+1,0,none⟩))) ⟨(by simp only[sG,Za,t1]),(by simp only[sG,Za,t2])⟩ ?_;clear t1 t2 tm;rintro tm ⟨t1,t2⟩;(repeat refine EvC.seq ?_);refine EvC.reg ?_;simp only[sB,ld25,cl42,t1,qt];refine(z88 (s:=sArr) (r0.mono hx hw) hx.wf).mono ?_;clear qt;rintro v G3 ⟨rfl,hx3⟩;replace gt:=hx3.get hx.wf gt;replace gq:=hx3.get hx.wf gq;replace hx:=hx.trans hx3;clear hx3;have qt:=row6 gt;by_cases hF:isF t sArr
 ·have hd:decide (isF t sArr)=true:=decide_eq_true hF;have hbd:bodyF (m+1) t=subBF (bodyF m) 6 t.args:=by rw[bodyF,if_neg hn,if_neg k1,if_neg ktrue,if_neg kexc,if_neg fcol,if_neg fcma,if_pos hF]
  try simp only[]
  refine EvC.condT (by simp only[sB,Za,hd]) ?_;(try refine EvC.skip ?_);(try simp only[z00,z01]);(repeat refine EvC.seq ?_);refine EvC.reg ?_;simp only[sB,Za,z0j,ld23,cl72,t1,qt];refine(z76 hb (k:=6) (by decide) (rl.mono hx hw) hfew (fun u hu=>hlf hu) hx.wf).mono ?_;rintro v H5 ⟨hx5,out,bd,rfl,hob,hbdd⟩;obtain⟨ta,tc,sa,sc,rfl⟩:=hob.rep.eight;have gq5:=hx5.get hx.wf gq;have n5:=hx5.next;have nx:=hx.next;have lq:=hx.wf _ _ gq
  repeat' (first|(refine EvC.ret ?_;try simp only[z04,z02])|(refine z0i ?_;simp (disch:=first|omega|rfl) only[sB,Za,Zb,one,st30,t2,gq5]))
  refine z09 rfl (by simp only[sB,Za,t2];rfl) (by simp only[sB,Zb,cutC,ld30];rfl) (by simp only[sB,Za];rfl) ⟨(hx.trans hx5).pt (by omega) gq5 _,_,bd,by rw[hbd],?_,fun b h=>hbdd b (by rw[←hbd];exact h)⟩;exact hob.to (fun n hn hl=>⟨by have:=hn.1;rw[get_put,if_neg (by omega)],by rw[z06];exact hl⟩) fun n hn=>⟨by have:=hn.1;omega,by rw[z06];exact hn.2⟩
 have farr:=hF;clear hF;have hd:decide (isF t sArr)=false:=decide_eq_false farr;try simp only[]
 refine EvC.condF (by simp only[sB,Za,hd]) ?_;(try refine EvC.skip ?_);(try simp only[z00,z01]);clear hd;refine EvC.frame (fun tm=>tm.get 1=some (.pointer (some ⟨H.next,0,none⟩))∧tm.get 2=some (.pointer (some ⟨H.next+1,0,none⟩))) ⟨(by simp only[sG,Za,t1]),(by simp only[sG,Za,t2])⟩ ?_;clear t1 t2 tm;rintro tm ⟨t1,t2⟩;(repeat refine EvC.seq ?_);refine EvC.meet (fun st=>∃tm' G',st=⟨tm',[],G'⟩∧tm'.get 1=some (.pointer (some ⟨H.next,0,none⟩))∧tm'.get 2=some (.pointer (some ⟨H.next+1,0,none⟩))∧tm'.get 58=some (.bool (decide (isF t sSem∧isF (t.at 0) sArr)))∧G'.get H.next=some (.row (six t a c) 25)∧G'.get (H.next+1)=some (.row zero8 30)∧HX H G') ?_ ?_
 ·refine EvC.reg ?_;simp only[sB,Za,ld25,cl42,t1,qt];refine(z88 (s:=sSem) (r0.mono hx hw) hx.wf).mono ?_;clear qt;rintro v H3 ⟨rfl,hx3⟩;replace gt:=hx3.get hx.wf gt;replace gq:=hx3.get hx.wf gq;replace hx:=hx.trans hx3;clear hx3;have qt:=row6 gt;by_cases hse:isF t sSem;rotate_left
  ·have fsa:decide (isF t sSem∧isF (t.at 0) sArr)=false:=decide_eq_false fun h=>hse h.1
   have hd:decide (isF t sSem)=false:=decide_eq_false hse;try simp only[sB,Za,hd,Zd]
   exact⟨_,_,rfl,(by simp only[sG,Za,t1]),(by simp only[sG,Za,t2]),by rw[fsa];first|(simp only[sG,Za];rfl)|simp only[sG,Za],gt,gq,hx⟩
  have hd:decide (isF t sSem)=true:=decide_eq_true hse;obtain⟨x,y,hxy⟩:∃x y,t.args=[x,y]:=by
   match hl:t.args,hse.2.2 with
   |[x,y],_=>exact⟨x,y,rfl⟩
  have ex:t.at 0=x:=by unfold Tm.at;rw[hxy];rfl
  have hl2:t.args.length=2:=hse.2.2;have i0:t.args[0]'(by omega)=x:=by simp [hxy]
  obtain⟨b,o,a1,c1,rfl,hld0,hr0⟩:=rl.el (i:=0) (by omega);rw[i0] at hld0 hr0;simp only[Zu,Nat.add_zero,ZL] at hld0;have l0:=hx.load hw hld0;try simp (disch:=first|omega|rfl) only[sB,Za,Zv,ld25,cl42,z0j,ld23,hd,t1,qt,l0,iz23,Zu]
  refine(z88 (s:=sArr) (hr0.mono hx hw) hx.wf).mono ?_;clear qt;rintro v H4 ⟨rfl,hx3⟩;have hde:decide (isF t sSem∧isF (t.at 0) sArr)=decide (isF x sArr):=by rw[ex];simp [hse]
  try simp only[]
  exact⟨_,_,rfl,(by simp only[sG,Za,t1]),(by simp only[sG,Za,t2]),by rw[hde];first|(simp only[sG,Za];rfl)|simp only[sG,Za],hx3.get hx.wf gt,hx3.get hx.wf gq,hx.trans hx3⟩
 clear t1 t2 tm gt gq hx qt;rintro st ⟨tm,G,rfl,t1,t2,tc,gt,gq,hx⟩;simp only[z00];have qt:=row6 gt;by_cases fsa:isF t sSem∧isF (t.at 0) sArr
 ·have hd:decide (isF t sSem∧isF (t.at 0) sArr)=true:=decide_eq_true fsa;obtain⟨x,y,hxy⟩:∃x y,t.args=[x,y]:=by
   match hl:t.args,fsa.1.2.2 with
   |[x,y],_=>exact⟨x,y,rfl⟩
  have ex:t.at 0=x:=by unfold Tm.at;rw[hxy];rfl
  have ey:t.at 1=y:=by unfold Tm.at;rw[hxy];rfl
  have hl2:t.args.length=2:=fsa.1.2.2;have fx:isF x sArr:=ex ▸ fsa.2;obtain⟨p,q,hpq⟩:∃p q,x.args=[p,q]:=by
   match hl:x.args,fx.2.2 with
   |[p,q],_=>exact⟨p,q,rfl⟩
  have ep:(t.at 0).at 0=p:=by rw[ex];unfold Tm.at;rw[hpq];rfl
  have eq:(t.at 0).at 1=q:=by rw[ex];unfold Tm.at;rw[hpq];rfl
  have hx2:x.args.length=2:=fx.2.2;have i0:t.args[0]'(by omega)=x:=by simp [hxy]
  have i1:t.args[1]'(by omega)=y:=by simp [hxy]
  have j0:x.args[0]'(by omega)=p:=by simp [hpq]
  have j1:x.args[1]'(by omega)=q:=by simp [hpq]
  obtain⟨b,o,a1,c1,rfl,hld0,hr0⟩:=rl.el (i:=0) (by omega);obtain⟨b',o',a2,c2,e2,hld1,hr1⟩:=rl.el (i:=1) (by omega);cases e2;rw[i0] at hld0 hr0;rw[i1] at hld1 hr1;obtain⟨ax,cx,cellsx,ee,-,-,-,-,-,rlx⟩:=hr0.six;obtain⟨-,-,-,-,-,rfl,rfl⟩:=z4h ee;obtain⟨bx,ox,a3,c3,rfl,hld2,hr2⟩:=rlx.el (i:=0) (by omega);obtain⟨b'',o'',a4,c4,e4,hld3,hr3⟩:=rlx.el (i:=1) (by omega);cases e4;rw[j0] at hld2 hr2;rw[j1] at hld3 hr3;simp only[Zu,Nat.add_zero,ZL] at hld0 hld1 hld2 hld3;have l0:=ldA5 (hx.load hw hld0);have l1:=hx.load hw hld1;have l2:=hx.load hw hld2;have l3:=hx.load hw hld3;obtain⟨L,eL⟩:∃L,six p a3 c3++six q a4 c4++six y a2 c2=L:=⟨_,rfl⟩
  obtain⟨Hq,e5⟩:∃Hq,(⟨G.next+24,G.t⟩:Heap).put (G.next+18) (some (.row L 25))=Hq:=⟨_,rfl⟩
  have hxq:HX G Hq:=by rw[←e5];exact(((HX.refl hx.wf).bump 24).put (by omega) (by show _ < G.next+24;omega) _)
  have gL:Hq.get (G.next+18)=some (.row L 25):=by rw[←e5,get_put,if_pos rfl]
  have gq5:=hxq.get hx.wf gq;have gt5:=hxq.get hx.wf gt;have hxf:=hx.trans hxq;have rl3:RepL Hq [p,q,y] (some ⟨G.next+18,0,none⟩) 3 (fun i=>(L.drop (i*6)).take 6):=RepL.of_row gL (fun i hi=>rfl) (fun i u hu=>by
    match i,hu with
    |0,hu=>cases hu;rw[←eL];exact hr2.mono hxf hw
    |1,hu=>cases hu;rw[←eL];exact hr3.mono hxf hw
    |2,hu=>cases hu;rw[←eL];exact hr1.mono hxf hw) (Zg _) (by decide)
  have hmx:x∈t.args:=by rw[hxy];simp
  have hmy:y∈t.args:=by rw[hxy];simp
  have hcx:=z0p hc hmx;have hxl:=z0d hmx;have hcon:=z76 hb (k:=6) (by decide) rl3 (by show 3≤64;decide) (fun u hu=>by
    have hux:u∈x.args∨u=y:=by
     rw[hpq];simp only[List.mem_cons,List.not_mem_nil,or_false] at hu ⊢;rcases hu with h|h|h
     ·exact .inl (.inl h)
     ·exact .inl (.inr h)
     ·exact .inr h
    rcases hux with hu|rfl
    ·exact⟨by have:=z0d hu;omega,z0p hcx hu⟩
    ·exact hlf hmy) hxq.wf
  have hbd:bodyF (m+1) t=subBF (bodyF m) 6 [p,q,y]:=by rw[bodyF,if_neg hn,if_neg k1,if_neg ktrue,if_neg kexc,if_neg fcol,if_neg fcma,if_neg farr,if_pos fsa,ep,eq,ey]
  have nx:=hx.next;have lq:=hx.wf _ _ gq;have eL':=eL;simp only[six,ZK,List.nil_append] at eL';have neq:(H.next+1=G.next+18)=False:=by simp;omega
  have gq5':=gq5;refine EvC.condT (by simp only[sA,tc,hd]) ?_;(try refine EvC.skip ?_);(try simp only[z00,z01]);clear tc;(repeat refine EvC.seq ?_);refine EvC.drw [([(0,0),(1,0),(2,0),(3,0),(4,0),(5,0),(6,0),(7,0),(8,0),(9,0),(10,0),(11,0),(12,0),(13,0),(14,0),(15,0),(16,0),(17,0),(18,0)],some 19),([(20,1),(21,1)],some 22),([(23,2)],none)] (by kernel_rfl) ?_;simp (disch:=first|omega|rfl) only[sD,sB,Za,Zb,Value.cells,one,reduceCtorEq,Zk,layC,Zv,ld25,z0j,ld23,cl72,zkt,isAlloc,isRead,dalloc,t1,qt,l0,l1,l2,l3,iz23,Zu,ZL,eL',e5];refine hcon.mono ?_;rintro v H5 ⟨hx5,out,bd,rfl,hob,hbdd⟩;obtain⟨ta,tc,sa,sc,rfl⟩:=hob.rep.eight;have gq5:=hx5.get hxq.wf gq5';have n5:=hx5.next;have nx:=hxf.next;have lq:=hxq.wf _ _ gq5'
  repeat' (first|(refine EvC.ret ?_;try simp only[z04,z02])|(refine z0h ?_;simp (disch:=first|omega|rfl) only[sD,sB,Za,Zb,one,st30,t2,gq5,isAlloc,isRead]))
  refine z09 rfl (by simp only[sB,Za,t2];rfl) (by simp only[sB,Zb,cutC,ld30];rfl) (by simp only[sB,Za];rfl) ⟨(hxf.trans hx5).pt (by omega) gq5 _,_,bd,by rw[hbd],?_,fun b h=>hbdd b (by rw[←hbd];exact h)⟩;exact hob.to (fun n hn hl=>⟨by have:=hn.1;rw[get_put,if_neg (by omega)],by rw[z06];exact hl⟩) fun n hn=>⟨by have:=hn.1;omega,by rw[z06];exact hn.2⟩
 have hd:decide (isF t sSem∧isF (t.at 0) sArr)=false:=decide_eq_false fsa;refine EvC.condF (by simp only[sA,tc,hd]) ?_;(try refine EvC.skip ?_);(try simp only[z00,z01]);clear tc hd;(repeat refine EvC.seq ?_);refine EvC.reg ?_;simp only[sB,ld25,cl42,t1,qt];refine(z88 (s:=sSem) (r0.mono hx hw) hx.wf).mono ?_;clear qt;rintro v G4 ⟨rfl,hx3⟩;replace gt:=hx3.get hx.wf gt;replace gq:=hx3.get hx.wf gq;replace hx:=hx.trans hx3;clear hx3;have qt:=row6 gt;by_cases hF:isF t sSem
 ·have hd:decide (isF t sSem)=true:=decide_eq_true hF;have hbd:bodyF (m+1) t=subBF (bodyF m) 5 t.args:=by rw[bodyF,if_neg hn,if_neg k1,if_neg ktrue,if_neg kexc,if_neg fcol,if_neg fcma,if_neg farr,if_neg fsa,if_pos hF]
  try simp only[]
  refine EvC.condT (by simp only[sB,Za,hd]) ?_;(try refine EvC.skip ?_);(try simp only[z00,z01]);(repeat refine EvC.seq ?_);refine EvC.reg ?_;simp only[sB,Za,z0j,ld23,cl72,t1,qt];refine(z76 hb (k:=5) (by decide) (rl.mono hx hw) hfew (fun u hu=>hlf hu) hx.wf).mono ?_;rintro v H5 ⟨hx5,out,bd,rfl,hob,hbdd⟩;obtain⟨ta,tc,sa,sc,rfl⟩:=hob.rep.eight;have gq5:=hx5.get hx.wf gq;have n5:=hx5.next;have nx:=hx.next;have lq:=hx.wf _ _ gq
  repeat' (first|(refine EvC.ret ?_;try simp only[z04,z02])|(refine z0i ?_;simp (disch:=first|omega|rfl) only[sB,Za,Zb,one,st30,t2,gq5]))
  refine z09 rfl (by simp only[sB,Za,t2];rfl) (by simp only[sB,Zb,cutC,ld30];rfl) (by simp only[sB,Za];rfl) ⟨(hx.trans hx5).pt (by omega) gq5 _,_,bd,by rw[hbd],?_,fun b h=>hbdd b (by rw[←hbd];exact h)⟩;exact hob.to (fun n hn hl=>⟨by have:=hn.1;rw[get_put,if_neg (by omega)],by rw[z06];exact hl⟩) fun n hn=>⟨by have:=hn.1;omega,by rw[z06];exact hn.2⟩
 have fsem:=hF;clear hF;have hd:decide (isF t sSem)=false:=decide_eq_false fsem;try simp only[]
 refine EvC.condF (by simp only[sB,Za,hd]) ?_;(try refine EvC.skip ?_);(try simp only[z00,z01]);clear hd;refine EvC.frame (fun tm=>tm.get 1=some (.pointer (some ⟨H.next,0,none⟩))∧tm.get 2=some (.pointer (some ⟨H.next+1,0,none⟩))) ⟨(by simp only[sG,Za,t1]),(by simp only[sG,Za,t2])⟩ ?_;clear t1 t2 tm;rintro tm ⟨t1,t2⟩;have hbd:bodyF (m+1) t=some (.mk 3 t []):=by rw[bodyF,if_neg hn,if_neg k1,if_neg ktrue,if_neg kexc,if_neg fcol,if_neg fcma,if_neg farr,if_neg fsa,if_neg fsem]
 (repeat refine EvC.seq ?_);refine EvC.reg ?_;simp (disch:=first|omega|rfl) only[sB,Za,Zb,Value.cells,one,Zk,layC,ld25,bd30,cl6,t1,qt];refine(z3o (r0.mono hx hw) (few6 hc) hx.wf).mono ?_;rintro v H5 ⟨hx5,out,rfl,hot⟩;obtain⟨ta,tc,cellst,rfl,-⟩:=hot.rep.six;have gq5:=hx5.get hx.wf gq;have n5:=hx5.next;have nx:=hx.next;have lq:=hx.wf _ _ gq
 repeat' (first|(refine EvC.ret ?_)|(refine z0i ?_;simp (disch:=first|omega|rfl) only[sB,Za,Zb,one,Zk,st30,t2,gq5]))
 have hot':OT (H5.put (H.next+1) (some (.row (eightT 3 t ta tc none 0 0) 30))) (Rg H.next H5.next) t (six t ta tc):=hot.to fun n hn hl=>⟨by have:=hn.1;rw[get_put,if_neg (by omega)],⟨by have:=hn.1;omega,hl⟩,by rw[z06];exact hl⟩
 exact z09 rfl (by simp only[sB,Za,t2];rfl) (by simp only[sB,Zb,cutC,ld30];rfl) (by simp only[sB,Za];rfl) ⟨(hx.trans hx5).pt (by omega) gq5 _,_,.mk 3 t [],by rw[hbd];rfl,.leaf _ 3 t (six t ta tc) (by decide) hot'.1 hot'.2,fun b h=>by rw[hbd] at h;cases h;rfl⟩
theorem z77:∀m:Nat,RBodyP m
 |0=>fun t cs H h=>absurd h (Nat.not_lt_zero _)
 |m+1=>fun t cs H hs r hc hw=>zmf (z77 m) hs r hc hw
set_option maxHeartbeats 16000000 in
theorem z8k {m:Nat}:∀{u:Bdy}{cs:List Value}{S:Nat→Prop}{H:Heap},SizeOf.sizeOf u < m→RepBI H S u cs→FewB 1000000 u→(∀n,S n→n < H.next)→H.wf →
  EvF Tryz.prog okT 47 [.agg ⟨cs⟩] H fun v H'=>HX H H'∧∃out,v=.agg ⟨out⟩∧RepS H' (fun n=>S n∨(H.next≤n∧n < H'.next)) (toldB u) out:=by
 induction m with
 |zero=>intro u cs S H h;omega
 |succ m ih =>
 intro u cs S H hsz r hfew hS hw;have hlen:=hfew.len;have ean:apOk Tryz.prog 23 25 6:=ap23;obtain⟨ta,tc,a,c,cells,rfl,hk,hr,hlc,hcm,hel⟩:=r.inv;refine EvF.enter rfl Tryz.func47 (by decide) rfl ?_;(repeat refine EvC.seq ?_);refine EvC.reg ?_;simp (disch:=first|omega|rfl) only[sB,initTm,dBox,dAlloc,Value.cells,one,zr25];obtain⟨H2,e2,hx2,gb,gq,hn2,hw2⟩:=new2 hw (.row (eightT u.kind u.term ta tc a u.sub.length c) 30) (.row zero6 25);simp only[e2];clear e2;have qb:=row8 gb;have hmx:u.sub.length≤9223372036854775807:=by omega
 (repeat refine EvC.seq ?_);refine EvC.reg ?_;simp only[sA];(repeat refine EvC.seq ?_);refine EvC.reg ?_;simp only[sA];refine EvC.join (fun st=>∃tm G ao co,st=⟨tm,[],G⟩∧tm.get 1=some (.pointer (some ⟨H.next,0,none⟩))∧tm.get 2=some (.pointer (some ⟨H.next+1,0,none⟩))∧tm.get 3=some (.slice ao u.sub.length co) ∧
  G.get H.next=some (.row (eightT u.kind u.term ta tc a u.sub.length c) 30)∧G.get (H.next+1)=some (.row zero6 25) ∧
  LT G 25 (fun n=>(S n∨(H.next+2≤n∧n < G.next))∧ao≠some ⟨n,0,none⟩) (u.sub.map toldB) ao co∧(∀n,ao=some ⟨n,0,none⟩→H.next+2≤n∧n < G.next)∧HX H G) ?_ ?_
 ·refine EvC.block (EvC.loop (fun k' st=>∃tm G i ao co,st=⟨tm,[],G⟩∧k'=u.sub.length - i∧i≤u.sub.length∧tm.get 1=some (.pointer (some ⟨H.next,0,none⟩))∧tm.get 2=some (.pointer (some ⟨H.next+1,0,none⟩))∧tm.get 3=some (.slice ao i co) ∧
   tm.get 4=some (.int .i64 (i:Nat)) ∧
   G.get H.next=some (.row (eightT u.kind u.term ta tc a u.sub.length c) 30)∧G.get (H.next+1)=some (.row zero6 25) ∧
   LT G 25 (fun n=>(S n∨(H.next+2≤n∧n < G.next))∧ao≠some ⟨n,0,none⟩) ((u.sub.take i).map toldB) ao co∧(∀n,ao=some ⟨n,0,none⟩→H.next+2≤n∧n < G.next)∧HX H G) ?_ u.sub.length _ ?_)
  rotate_left
  ·exact⟨_,_,0,none,0,rfl,rfl,Zs _,(by simp only[sG,Za,reduceCtorEq]),(by simp only[sG,Za,reduceCtorEq]),(by simp only[sG,Za,reduceCtorEq]),(by simp only[sB,Za,reduceCtorEq];rfl),gb,gq,.nil,fun n h=>(by cases h),hx2⟩
  rintro k' st ⟨tm,G,i,ao,co,rfl,rfl,hi,t1,t2,t3,t4,gbG,gqG,hlt',hao,hxG⟩;have qbG:=row8 gbG;have hwG:=hxG.wf;by_cases hlt:i < u.sub.length;rotate_left
  ·repeat' (first|refine EvC.seq ?_|(refine EvC.exit ?_;try simp only[sB])|(refine EvC.reg ?_;simp only[sB,Za,z1k,ld28,ln28,t1,t4,qbG,decn hlt])|(refine EvC.condF ?_ ?_;simp only[sB,Za];refine z07 ?_))
   obtain rfl:i=u.sub.length:=by omega
   rw[List.take_length] at hlt';exact⟨_,_,ao,co,rfl,(by simp only[sG,Za,t1]),(by simp only[sG,Za,t2]),(by simp only[sG,Za,t3]),gbG,gqG,hlt',hao,hxG⟩
  obtain⟨b,o,rfl,hSb,hbl,hld,hri⟩:=hel i hlt;obtain⟨ta1,tc1,a1,c1,cells1,e1,-⟩:=hri.inv;rw[e1] at hld hri;have hld1:=hxG.load hw hld;(repeat refine EvC.seq ?_);refine EvC.reg ?_;simp only[sB,Za,z1k,ld28,ln28,t1,t4,qbG,decl hlt];refine EvC.condT (by simp only[sB,Za]) ?_;(try refine EvC.skip ?_);(try simp only[z00,z01]);refine EvC.seq ?_;refine EvC.block ?_;refine EvC.reg ?_;simp (disch:=first|omega|rfl) only[sB,Za,Zb,Value.cells,layC,z1k,ld28,ia28,ld30,cl47,z4s,t1,t3,t4,qbG,hld1];have hsz1:=Bdy.size u u.sub[i] (Zx _);refine(ih (u:=u.sub[i]) (by omega) (hri.to fun n hn hl=>⟨hxG.keep n hl,hn,Zh hl hxG.next⟩) (hfew.sub _ (Zx _)) (fun n hn=>Zh (hS n hn) hxG.next) hwG).mono ?_;rintro v H5 ⟨hx5,out,rfl,hrep⟩;obtain⟨t6,k6,cells6,rfl,-⟩:=hrep.rep.six;try simp (disch:=first|omega|rfl) only[sB,Za,Zb,one]
  obtain⟨H6,e6,hx6,g6,hn6,hw6⟩:=new1 hx5.wf (.row (six (toldB u.sub[i]) t6 k6) 25);simp only[e6];clear e6;have hx46:=hx5.trans hx6;have n5:=hx5.next;have nG:=hxG.next;have lqG:=hwG _ _ gqG;have etl:((u.sub.take i).map toldB).length=i:=by rw[Zq,Zl];omega
  obtain⟨H7,e7,hlt7,hk7,hn7⟩:=LT.push (P:=Tryz.prog) (t:=23) (E':=fun n=>(S n∨(H.next+2≤n∧n < H6.next+1))∧(some ⟨H6.next,0,none⟩:Option Addr)≠some ⟨n,0,none⟩) (E2:=fun n=>S n∨(G.next≤n∧n < H5.next)) (u:=toldB u.sub[i]) (c1:=1) ean
   (hlt'.to (H':=H6) (E':=fun n=>(S n∨(H.next+2≤n∧n < G.next))∧ao≠some ⟨n,0,none⟩) (fun n _ hl=>hx46.keep n hl) hx46.next (fun n hn=>hn) fun n hn h=>h.2 hn) hw6 (ld1 g6 rfl) (hrep.to fun n hn hl=>⟨hx6.keep n hl,hn,by omega⟩)
   (fun n hn ha=>by
    have h1:=hao n ha;rcases hn with hn|hn
    ·have:=hS n hn;omega
    ·omega) (fun n hn=>by
    rcases hn.1 with h|h
    ·have:=hS n h;omega
    ·omega) (fun n hn=>by
    rcases hn with h|h
    ·have:=hS n h;omega
    ·omega) (by rw[etl];unfold most;omega) (fun n hn=>by
    rcases hn with ⟨h,_⟩|h
    ·refine⟨h.imp_right fun h=>⟨h.1,by omega⟩,fun e=>?_⟩;injection e with e;injection e with e;rcases h with h|h
     ·have:=hS n h;omega
     ·omega
    ·refine⟨h.imp_right fun h=>⟨by omega,by omega⟩,fun e=>?_⟩;injection e with e;injection e with e;rcases h with h|h
     ·have:=hS n h;omega
     ·omega) (fun h=>h.2 rfl)
  rw[etl] at e7 hlt7;have ha1:ao≠some ⟨H.next,0,none⟩:=fun h=>by have:=hao _ h;omega
  have ha2:ao≠some ⟨H.next+1,0,none⟩:=fun h=>by have:=hao _ h;omega
  have gb7:=hk7.get hw6 (hx46.get hwG gbG) ha1;have gq7:=hk7.get hw6 (hx46.get hwG gqG) ha2;have hx7:HX H H7:=(hxG.trans hx46).then hk7 fun n hn h=>by have:=hao _ h;omega
  repeat' (first|(refine EvC.reg ?_;simp (disch:=first|omega|rfl) only[sB,Za,t4,z0b])|(refine z0i ?_;simp only[sB,Za,e7]))
  refine⟨u.sub.length - (i+1),by omega,_,_,i+1,some ⟨H6.next,0,none⟩,i+1,rfl,rfl,by omega,(by simp only[sG,Za,t1]),(by simp only[sG,Za,t2]),(by simp only[sG,Za]),(by simp only[sB,Za];rfl),gb7,gq7,?_,fun n h=>by injection h with h;injection h with h;omega,hx7⟩;rw[←ZA hlt,ZD,hn7];exact hlt7
 rintro st ⟨tm,G,ao,co,rfl,t1,t2,t3,gb,gq,hlt',hao,hxG⟩;have qb:=row8 gb;have htold:=z2j u;have hll:(u.sub.map toldB).length=u.sub.length:=Zq _;have hww:=hxG.wf;have lq:=hww _ _ gq;have hcm':co≤maxLen:=by
  rcases hlt' with ⟨-,-,rfl⟩|⟨b,cells,-,-,h,-⟩
  ·exact Zs _
  ·exact h
 have hrG:RepS G S u.term (six u.term ta tc):=hr.to fun n hn hl=>⟨hxG.keep n hl,hn,Zh hl hxG.next⟩
 have nG:=hxG.next;simp only[z00];generalize hL:u.sub.map toldB=L at htold hll hlt';(repeat refine EvC.seq ?_);refine EvC.reg ?_;simp only[sB,z1f,ld3,t1,qb];refine EvC.join (fun st=>∃tm',st=⟨tm',[],G⟩∧tm'.get 2=some (.pointer (some ⟨H.next+1,0,none⟩))∧toldB u=atmT sTrue) ?_ ?_;rotate_left
 ·rintro st ⟨tm,rfl,t2,htr⟩;(repeat refine EvC.seq ?_);refine EvC.reg ?_;simp only[sB,Za,cl25];refine(zjl hww).mono ?_;rintro v H5 ⟨rfl,hx5⟩;have n5:=hx5.next;have gq5:=hx5.get hww gq
  repeat' (first|(refine EvC.ret ?_)|(refine z0i ?_;simp (disch:=first|omega|rfl) only[sB,Zb,one,st25,t2,gq5]))
  refine z0a rfl (by simp only[sB,Za,t2];rfl) (by simp only[sB,Zb,cutC,ld25];rfl) ⟨(hxG.trans hx5).pt (by omega) gq5 _,_,rfl,?_⟩;rw[htr];exact z1z (by decide)
 refine EvC.block ?_;by_cases k2:u.kind=2
 ·(repeat refine EvC.seq ?_);refine EvC.reg ?_;simp only[sB,Za,z0k k2];refine EvC.condT (by simp only[sB,Za]) ?_;(try refine EvC.skip ?_);(try simp only[z00,z01]);(repeat refine EvC.seq ?_);refine EvC.reg ?_;simp only[sB,Za,cl25];refine(zjl hww).mono ?_;rintro v H5 ⟨rfl,hx5⟩;have n5:=hx5.next;have gq5:=hx5.get hww gq
  repeat' (first|(refine EvC.ret ?_;try simp only[z04,z02])|(refine z0i ?_;simp (disch:=first|omega|rfl) only[sB,Zb,one,st25,t2,gq5]))
  refine z0a rfl (by simp only[sB,Za,t2];rfl) (by simp only[sB,Zb,cutC,ld25];rfl) ⟨(hxG.trans hx5).pt (by omega) gq5 _,_,rfl,?_⟩;rw[htold,tellB,if_pos k2];exact z1z (by decide)
 (repeat refine EvC.seq ?_);refine EvC.reg ?_;simp only[sB,Za,z0m k2];refine EvC.condF (by simp only[sB,Za]) ?_;(try refine EvC.skip ?_);(try simp only[z00,z01]);by_cases k3:u.kind=3
 ·(repeat refine EvC.seq ?_);refine EvC.reg ?_;simp only[sB,Za,z0k k3];refine EvC.condT (by simp only[sB,Za]) ?_;(try refine EvC.skip ?_);(try simp only[z00,z01]);(repeat refine EvC.seq ?_);refine EvC.reg ?_;simp only[sB,Za,z5r,ld25,cl6,t1,qb];refine(z3o hrG.rep (hfew.term) hww).mono ?_;rintro v H5 ⟨hx5,out,rfl,hot⟩;obtain⟨a5,c5,cells5,rfl,-⟩:=hot.rep.six;have n5:=hx5.next;have gq5:=hx5.get hww gq
  repeat' (first|(refine EvC.ret ?_;try simp only[z04,z02])|(refine z0i ?_;simp (disch:=first|omega|rfl) only[sB,Zb,one,st25,t2,gq5]))
  refine z0a rfl (by simp only[sB,Za,t2];rfl) (by simp only[sB,Zb,cutC,ld25];rfl) ⟨(hxG.trans hx5).pt (by omega) gq5 _,_,rfl,?_⟩;rw[htold,tellB,if_neg k2,if_pos k3];refine hot.1.to fun n hn hl=>?_
  have h1:G.next≤n:=hn.1;exact⟨by rw[get_put,if_neg (by omega)],.inr ⟨by omega,by rw[z06];exact hl⟩,by rw[z06];exact hl⟩
 (repeat refine EvC.seq ?_);refine EvC.reg ?_;simp only[sB,Za,z0m k3];refine EvC.condF (by simp only[sB,Za]) ?_;(try refine EvC.skip ?_);(try simp only[z00,z01]);by_cases kk4:u.kind=4
 ·(repeat refine EvC.seq ?_);refine EvC.reg ?_;simp only[sB,Za,z0k kk4];refine EvC.condT (by simp only[sB,Za]) ?_;(try refine EvC.skip ?_);(try simp only[z00,z01]);by_cases l4:L.length=2
  ·have k4:u.kind=4∧L.length=2:=⟨kk4,l4⟩
   have hl':(u.sub.length:Int)=2:=by omega
   rcases hlt' with ⟨h,-⟩|⟨b,cells,rfl,p1,p2,p3,p4,p5,p6,p7⟩
   ·rw[h] at l4;cases l4
   have hcl:G.load ⟨b,0,none⟩ (L.length*6)=some (cells.take (L.length*6)):=by
    unfold Heap.load Heap.cells;simp only[p3,List.drop_zero];rw[if_pos (by rw[Zr,Zl];omega)]
   rw[hll] at hcl;have hone:(cells.take (u.sub.length*6)).all one=true:=by
    rw[←hll];exact z29 _ p6 fun i hi=>(z67 (p7 i _ (Zc hi)).rep).1
   (repeat refine EvC.seq ?_);refine EvC.reg ?_;simp only[sB,Za,ln23,t3,z0k hl'];refine EvC.condT (by simp only[sB,Za]) ?_;(try refine EvC.skip ?_);(try simp only[z00,z01]);(repeat refine EvC.seq ?_);refine EvC.reg ?_;simp only[sB,Za,cl24,t3];refine(F_ev (by omega) (by omega) hcl hone hww).mono ?_;rintro v H5 ⟨rfl,g5,n5,hx5⟩;have gq5:=hx5.get hww gq
   repeat' (first|(refine EvC.ret ?_;try simp only[z04,z02])|(refine z0i ?_;simp (disch:=first|omega|rfl) only[sB,Zb,one,st25,t2,gq5]))
   refine z0a rfl (by simp only[sB,Za,t2];rfl) (by simp only[sB,Zb,cutC,ld25];rfl) ⟨(hxG.trans hx5).pt (by omega) gq5 _,_,rfl,?_⟩;rw[htold,tellB,if_neg k2,if_neg k3,if_pos k4];have hcmp:RepS H5 (fun n=>S n∨(H.next+2≤n∧n < H5.next)) (cmpT sCma L) (six (cmpT sCma L) (some ⟨G.next+2,0,none⟩) L.length):=RepS.row (t:=cmpT sCma L) (z5t (by decide)) rfl g5 (.inr ⟨by omega,by omega⟩) (by omega) (by show L.length*6≤_;rw[Zl];omega) (Zg _) (by show L.length≤maxLen;exact Zo p1 p2) fun j hj=>by
    have hj':j < L.length:=hj;have e:((cells.take (u.sub.length*6)).drop (j*6)).take 6=(cells.drop (j*6)).take 6:=by
     rw[List.drop_take,List.take_take];congr 1;omega
    rw[e];exact(p7 j _ (Zc hj')).to fun n hn hl=>⟨hx5.keep n hl,hn.1.imp_right fun h=>⟨h.1,by omega⟩,by omega⟩
   have e6:six (cmpT sCma L) (some ⟨G.next+2,0,none⟩) L.length=[.int .i64 5,.string sCma,.string Ze,.int .u64 0,.int .i64 0,.slice (some ⟨G.next+2,0,none⟩) u.sub.length u.sub.length]:=by show [_,_,_,_,_,Value.slice _ L.length L.length]=_;rw[hll];rfl
   rw[e6] at hcmp;refine hcmp.to fun n hn hl=>?_
   have hne:n≠H.next+1:=by
    rcases hn with h|h
    ·have:=hS n h;omega
    ·omega
   exact⟨by rw[get_put,if_neg hne],hn.imp_right fun h=>⟨by omega,by rw[z06];omega⟩,by rw[z06];omega⟩
  ·have hl':(u.sub.length:Int)≠2:=by omega
   repeat' (first|refine EvC.seq ?_|(refine EvC.skip ?_;try simp only[sA])|(refine EvC.reg ?_;simp only[sB,Za,ln23,t3,z0m hl'])|(refine EvC.condF ?_ ?_;simp only[sB,Za];refine z07 ?_))
   refine⟨_,rfl,(by simp only[sG,Za,t2]),?_⟩;rw[htold];exact z3a k2 k3 (fun h=>by have:=h.1;first|exact l4 h.2|omega) (fun h=>by have:=h.1;first|exact l5 h.2|omega) (fun h=>by have:=h.1;omega) (fun h=>by have:=h.1;omega) (fun h=>by have:=h.1;omega)
 (repeat refine EvC.seq ?_);refine EvC.reg ?_;simp only[sB,Za,z0m kk4];refine EvC.condF (by simp only[sB,Za]) ?_;(try refine EvC.skip ?_);(try simp only[z00,z01]);by_cases kk5:u.kind=5
 ·(repeat refine EvC.seq ?_);refine EvC.reg ?_;simp only[sB,Za,z0k kk5];refine EvC.condT (by simp only[sB,Za]) ?_;(try refine EvC.skip ?_);(try simp only[z00,z01]);by_cases l5:L.length=2
  ·have k5:u.kind=5∧L.length=2:=⟨kk5,l5⟩
   have hl':(u.sub.length:Int)=2:=by omega
   rcases hlt' with ⟨h,-⟩|⟨b,cells,rfl,p1,p2,p3,p4,p5,p6,p7⟩
   ·rw[h] at l5;cases l5
   have hcl:G.load ⟨b,0,none⟩ (L.length*6)=some (cells.take (L.length*6)):=by
    unfold Heap.load Heap.cells;simp only[p3,List.drop_zero];rw[if_pos (by rw[Zr,Zl];omega)]
   rw[hll] at hcl;have hone:(cells.take (u.sub.length*6)).all one=true:=by
    rw[←hll];exact z29 _ p6 fun i hi=>(z67 (p7 i _ (Zc hi)).rep).1
   (repeat refine EvC.seq ?_);refine EvC.reg ?_;simp only[sB,Za,ln23,t3,z0k hl'];refine EvC.condT (by simp only[sB,Za]) ?_;(try refine EvC.skip ?_);(try simp only[z00,z01]);(repeat refine EvC.seq ?_);refine EvC.reg ?_;simp only[sB,Za,cl24,t3];refine(F_ev (by omega) (by omega) hcl hone hww).mono ?_;rintro v H5 ⟨rfl,g5,n5,hx5⟩;have gq5:=hx5.get hww gq
   repeat' (first|(refine EvC.ret ?_;try simp only[z04,z02])|(refine z0i ?_;simp (disch:=first|omega|rfl) only[sB,Zb,one,st25,t2,gq5]))
   refine z0a rfl (by simp only[sB,Za,t2];rfl) (by simp only[sB,Zb,cutC,ld25];rfl) ⟨(hxG.trans hx5).pt (by omega) gq5 _,_,rfl,?_⟩;rw[htold,tellB,if_neg k2,if_neg k3,if_neg fun h=>absurd h.1 kk4,if_pos k5];have hcmp:RepS H5 (fun n=>S n∨(H.next+2≤n∧n < H5.next)) (cmpT sSem L) (six (cmpT sSem L) (some ⟨G.next+2,0,none⟩) L.length):=RepS.row (t:=cmpT sSem L) (z5t (by decide)) rfl g5 (.inr ⟨by omega,by omega⟩) (by omega) (by show L.length*6≤_;rw[Zl];omega) (Zg _) (by show L.length≤maxLen;exact Zo p1 p2) fun j hj=>by
    have hj':j < L.length:=hj;have e:((cells.take (u.sub.length*6)).drop (j*6)).take 6=(cells.drop (j*6)).take 6:=by
     rw[List.drop_take,List.take_take];congr 1;omega
    rw[e];exact(p7 j _ (Zc hj')).to fun n hn hl=>⟨hx5.keep n hl,hn.1.imp_right fun h=>⟨h.1,by omega⟩,by omega⟩
   have e6:six (cmpT sSem L) (some ⟨G.next+2,0,none⟩) L.length=[.int .i64 5,.string sSem,.string Ze,.int .u64 0,.int .i64 0,.slice (some ⟨G.next+2,0,none⟩) u.sub.length u.sub.length]:=by show [_,_,_,_,_,Value.slice _ L.length L.length]=_;rw[hll];rfl
   rw[e6] at hcmp;refine hcmp.to fun n hn hl=>?_
   have hne:n≠H.next+1:=by
    rcases hn with h|h
    ·have:=hS n h;omega
    ·omega
   exact⟨by rw[get_put,if_neg hne],hn.imp_right fun h=>⟨by omega,by rw[z06];omega⟩,by rw[z06];omega⟩
  ·have hl':(u.sub.length:Int)≠2:=by omega
   repeat' (first|refine EvC.seq ?_|(refine EvC.skip ?_;try simp only[sA])|(refine EvC.reg ?_;simp only[sB,Za,ln23,t3,z0m hl'])|(refine EvC.condF ?_ ?_;simp only[sB,Za];refine z07 ?_))
   refine⟨_,rfl,(by simp only[sG,Za,t2]),?_⟩;rw[htold];exact z3a k2 k3 (fun h=>by have:=h.1;first|exact l4 h.2|omega) (fun h=>by have:=h.1;first|exact l5 h.2|omega) (fun h=>by have:=h.1;omega) (fun h=>by have:=h.1;omega) (fun h=>by have:=h.1;omega)
 (repeat refine EvC.seq ?_);refine EvC.reg ?_;simp only[sB,Za,z0m kk5];refine EvC.condF (by simp only[sB,Za]) ?_;(try refine EvC.skip ?_);(try simp only[z00,z01]);by_cases kk6:u.kind=6
 ·(repeat refine EvC.seq ?_);refine EvC.reg ?_;simp only[sB,Za,z0k kk6];refine EvC.condT (by simp only[sB,Za]) ?_;(try refine EvC.skip ?_);(try simp only[z00,z01]);by_cases l6:L.length=2
  ·have k6:u.kind=6∧L.length=2:=⟨kk6,l6⟩
   have hl':(u.sub.length:Int)=2:=by omega
   rcases hlt' with ⟨h,-⟩|⟨b,cells,rfl,p1,p2,p3,p4,p5,p6,p7⟩
   ·rw[h] at l6;cases l6
   have hcl:G.load ⟨b,0,none⟩ (L.length*6)=some (cells.take (L.length*6)):=by
    unfold Heap.load Heap.cells;simp only[p3,List.drop_zero];rw[if_pos (by rw[Zr,Zl];omega)]
   rw[hll] at hcl;have hone:(cells.take (u.sub.length*6)).all one=true:=by
    rw[←hll];exact z29 _ p6 fun i hi=>(z67 (p7 i _ (Zc hi)).rep).1
   (repeat refine EvC.seq ?_);refine EvC.reg ?_;simp only[sB,Za,ln23,t3,z0k hl'];refine EvC.condT (by simp only[sB,Za]) ?_;(try refine EvC.skip ?_);(try simp only[z00,z01]);(repeat refine EvC.seq ?_);refine EvC.reg ?_;simp only[sB,Za,cl24,t3];refine(F_ev (by omega) (by omega) hcl hone hww).mono ?_;rintro v H5 ⟨rfl,g5,n5,hx5⟩;have gq5:=hx5.get hww gq
   repeat' (first|(refine EvC.ret ?_;try simp only[z04,z02])|(refine z0i ?_;simp (disch:=first|omega|rfl) only[sB,Zb,one,st25,t2,gq5]))
   refine z0a rfl (by simp only[sB,Za,t2];rfl) (by simp only[sB,Zb,cutC,ld25];rfl) ⟨(hxG.trans hx5).pt (by omega) gq5 _,_,rfl,?_⟩;rw[htold,tellB,if_neg k2,if_neg k3,if_neg fun h=>absurd h.1 kk4,if_neg fun h=>absurd h.1 kk5,if_pos k6];have hcmp:RepS H5 (fun n=>S n∨(H.next+2≤n∧n < H5.next)) (cmpT sArr L) (six (cmpT sArr L) (some ⟨G.next+2,0,none⟩) L.length):=RepS.row (t:=cmpT sArr L) (z5t (by decide)) rfl g5 (.inr ⟨by omega,by omega⟩) (by omega) (by show L.length*6≤_;rw[Zl];omega) (Zg _) (by show L.length≤maxLen;exact Zo p1 p2) fun j hj=>by
    have hj':j < L.length:=hj;have e:((cells.take (u.sub.length*6)).drop (j*6)).take 6=(cells.drop (j*6)).take 6:=by
     rw[List.drop_take,List.take_take];congr 1;omega
    rw[e];exact(p7 j _ (Zc hj')).to fun n hn hl=>⟨hx5.keep n hl,hn.1.imp_right fun h=>⟨h.1,by omega⟩,by omega⟩
   have e6:six (cmpT sArr L) (some ⟨G.next+2,0,none⟩) L.length=[.int .i64 5,.string sArr,.string Ze,.int .u64 0,.int .i64 0,.slice (some ⟨G.next+2,0,none⟩) u.sub.length u.sub.length]:=by show [_,_,_,_,_,Value.slice _ L.length L.length]=_;rw[hll];rfl
   rw[e6] at hcmp;refine hcmp.to fun n hn hl=>?_
   have hne:n≠H.next+1:=by
    rcases hn with h|h
    ·have:=hS n h;omega
    ·omega
   exact⟨by rw[get_put,if_neg hne],hn.imp_right fun h=>⟨by omega,by rw[z06];omega⟩,by rw[z06];omega⟩
  ·have hl':(u.sub.length:Int)≠2:=by omega
   by_cases l6t:L.length=3
   ·have hl3:(u.sub.length:Int)=3:=by omega
    obtain⟨x,y,z,hxy⟩:∃x y z,L=[x,y,z]:=by
     match L,l6t with
     |[x,y,z],_=>exact⟨x,y,z,rfl⟩
    subst hxy;obtain⟨b,a1,c1,rfl,l0,r1,hbl⟩:=hlt'.el (i:=0) (by show 0 < 3;decide);obtain⟨b',a2,c2,e2,l1,r2,-⟩:=hlt'.el (i:=1) (by show 1 < 3;decide);cases e2;obtain⟨b'',a3,c3,e3,l2,r3,-⟩:=hlt'.el (i:=2) (by show 2 < 3;decide);cases e3;simp only[List.getElem_cons_zero,List.getElem_cons_succ,Zu,ZL] at l0 l1 l2 r1 r2 r3;rcases hlt' with ⟨h,-⟩|⟨b',cells,e,p1,p2,p3,p4,p5,p6,p7⟩
    ·cases h
    cases e;have hco:3≤co:=p1;have hcl:(⟨G.next+8,G.t⟩:Heap).load ⟨b,0,none⟩ (2*6)=some (cells.take 12):=by
     have p6':3*6≤cells.length:=p6;show G.load _ _=_;unfold Heap.load Heap.cells;simp only[p3,List.drop_zero];rw[if_pos (by rw[Zr,Zl];omega)]
    have hone:(cells.take 12).all one=true:=z29 2 (by have p6':3*6≤cells.length:=p6;omega) fun i hi=>(z67 (p7 i _ (Zc (by show i < 3;omega))).rep).1
    have hxb:HX G ⟨G.next+8,G.t⟩:=(HX.refl hww).bump 8;(repeat refine EvC.seq ?_);refine EvC.reg ?_;simp only[sB,Za,ln23,t3,z0m hl'];refine EvC.condF (by simp only[sB,Za]) ?_;(try refine EvC.skip ?_);(try simp only[z00,z01]);(repeat refine EvC.seq ?_);refine EvC.reg ?_;simp only[sB,Za,ln23,t3,z0k hl3];refine EvC.condT (by simp only[sB,Za]) ?_;(try refine EvC.skip ?_);(try simp only[z00,z01]);have hs2:∀{H':Heap},dSl Tryz.prog 23 (.slice (some ⟨b,0,none⟩) u.sub.length co) none (some (.int .i64 2)) none H'=some (.val (.slice (some ⟨b,0,none⟩) 2 co) H'):=zh5 (m:=2) sl23 (by omega);(repeat refine EvC.seq ?_);refine EvC.drw [([(0,0),(1,0)],some 2),([(3,0),(4,0),(5,0)],some 6),([],some 7),([],none)] (by kernel_rfl) ?_;simp only[sD,sB,Za,Zb,reduceCtorEq,cl24,isAlloc,isRead,t3,hs2];refine(F_ev (n:=2) (by decide) (by decide) hcl hone hxb.wf).mono ?_;rintro v H5 ⟨rfl,g5,n5,hx5⟩;have n5':H5.next=G.next+8+3:=n5;have hx5G:=hxb.trans hx5;have l25:=hx5G.load hww l2
    repeat' (first|(refine z0h ?_;simp (disch:=first|omega|rfl) only[sV,sD,sB,Za,reduceCtorEq,Zv,ld25,cl23,t3,l2,l25,iz23,Nat.reduceMul,isAlloc,isRead]))
    refine(zln (s:=sSem) (t:=cmpT sArr [x,y]) (a:=some ⟨G.next+8+2,0,none⟩) (c:=2) (u:=z) (a':=a3) (c':=c3) hx5.wf).mono ?_;rintro v H6 ⟨b6,rfl,g6,lo6,hi6,hx6⟩;have hx56:=hx5G.trans hx6;have gq6:=hx56.get hww gq
    repeat' (first|(refine EvC.ret ?_;try simp only[z04,z02])|(refine z0h ?_;simp (disch:=first|omega|rfl) only[sD,sB,Za,Zb,one,st25,t2,gq6]))
    refine z0a rfl (by simp only[sB,Za,t2];rfl) (by simp only[sB,Zb,cutC,ld25];rfl) ⟨(hxG.trans hx56).pt (by omega) gq6 _,_,rfl,?_⟩;have htt:toldB u=cmpT sSem [cmpT sArr [x,y],z]:=by
     rw[htold,tellB,if_neg k2,if_neg k3,if_neg (fun h=>kk4 h.1),if_neg (fun h=>kk5 h.1),if_neg (fun h=>by have:=h.2;omega),if_pos ⟨kk6,l6t⟩];rfl
    rw[htt];have rr:∀{w:Tm}{cs:List Value},RepS G (fun n=>(S n∨(H.next+2≤n∧n < G.next))∧(some ⟨b,0,none⟩:Option Addr)≠some ⟨n,0,none⟩) w cs→RepS H6 (fun n=>(S n∨(H.next+2≤n∧n < H6.next))) w cs:=fun h=>h.to fun n hn hl=>⟨hx56.keep n hl,hn.1.imp_right fun h=>⟨h.1,by omega⟩,by omega⟩
    have g56:=hx6.get hx5.wf g5;have hxyr:RepS H6 (fun n=>(S n∨(H.next+2≤n∧n < H6.next))) (cmpT sArr [x,y]) (six (cmpT sArr [x,y]) (some ⟨G.next+8+2,0,none⟩) 2) :=
     RepS.row (t:=cmpT sArr [x,y]) (z5t (by decide)) rfl g56 (.inr ⟨by omega,by omega⟩) (by omega) (by show 2*6≤_;rw[Zl];have p6':3*6≤cells.length:=p6;omega) (Zg _) (by decide) fun j hj=>by
      have hj':j < 2:=hj;have e:((cells.take 12).drop (j*6)).take 6=(cells.drop (j*6)).take 6:=by
       rw[List.drop_take,List.take_take];congr 1;omega
      rw[e]
      match j,hj' with
      |0,_=>exact rr (p7 0 _ rfl)
      |1,_=>exact rr (p7 1 _ rfl)
    have ho:RepS H6 (fun n=>(S n∨(H.next+2≤n∧n < H6.next))) (cmpT sSem [cmpT sArr [x,y],z]) (six (cmpT sSem [cmpT sArr [x,y],z]) (some ⟨b6,0,none⟩) 2):=z2y (by decide) g6 (.inr ⟨by omega,hi6⟩) hx6.wf hxyr (rr r3);refine ho.to fun n hn hl=>?_
    have hne:n≠H.next+1:=by
     rcases hn with h|h
     ·have:=hS n h;omega
     ·omega
    exact⟨by rw[get_put,if_neg hne],hn.imp_right fun h=>⟨by omega,by rw[z06];omega⟩,by rw[z06];omega⟩
   ·have hl3:(u.sub.length:Int)≠3:=by omega
    repeat' (first|refine EvC.seq ?_|(refine EvC.skip ?_;try simp only[sA])|(refine EvC.reg ?_;simp only[sB,Za,ln23,t3,z0m hl',z0m hl3])|(refine EvC.condF ?_ ?_;simp only[sB,Za];refine z07 ?_))
    refine⟨_,rfl,(by simp only[sG,Za,t2]),?_⟩;rw[htold];exact z3a k2 k3 (fun h=>kk4 h.1) (fun h=>kk5 h.1) (fun h=>l6 h.2) (fun h=>l6t h.2) (fun h=>by have:=h.1;omega)
 (repeat refine EvC.seq ?_);refine EvC.reg ?_;simp only[sB,Za,z0m kk6];refine EvC.condF (by simp only[sB,Za]) ?_;(try refine EvC.skip ?_);(try simp only[z00,z01]);by_cases kk7:u.kind=7
 ·(repeat refine EvC.seq ?_);refine EvC.reg ?_;simp only[sB,Za,z0k kk7];refine EvC.condT (by simp only[sB,Za]) ?_;(try refine EvC.skip ?_);(try simp only[z00,z01]);by_cases l7:L.length=1
  ·have hl':(u.sub.length:Int)=1:=by omega
   obtain⟨x,hxy⟩:∃x,L=[x]:=by
    match L,l7 with
    |[x],_=>exact⟨x,rfl⟩
   subst hxy;obtain⟨b,a1,c1,rfl,l0,r1,hbl⟩:=hlt'.el (i:=0) (by show 0 < 1;decide);simp only[List.getElem_cons_zero,Zu] at l0 r1;have hxb:HX G ⟨G.next+7,G.t⟩:=(HX.refl hww).bump 7;(repeat refine EvC.seq ?_);refine EvC.reg ?_;simp only[sB,Za,ln23,t3,z0k hl'];refine EvC.condT (by simp only[sB,Za]) ?_;(try refine EvC.skip ?_);(try simp only[z00,z01]);(repeat refine EvC.seq ?_);refine EvC.drw [([(0,0),(1,0),(2,0),(3,0),(4,0)],some 5),([],some 6),([],none)] (by kernel_rfl) ?_;simp (disch:=first|omega|rfl) only[sD,sB,Za,Zb,reduceCtorEq,Zv,z5r,ld25,cl23,isAlloc,isRead,t1,t3,qb,l0,iz23,Zu];refine(zln (s:=sCol) (t:=u.term) (a:=ta) (c:=tc) (u:=x) (a':=a1) (c':=c1) hxb.wf).mono ?_;rintro v H6 ⟨b6,rfl,g6,lo6,hi6,hx6⟩;have lo6':G.next+7≤b6:=lo6;have hx56:=hxb.trans hx6;have gq6:=hx56.get hww gq;have n6:G.next+7≤H6.next:=hx6.next
   repeat' (first|(refine EvC.ret ?_;try simp only[z04,z02])|(refine z0h ?_;simp (disch:=first|omega|rfl) only[sD,sB,Za,Zb,one,st25,t2,gq6]))
   refine z0a rfl (by simp only[sB,Za,t2];rfl) (by simp only[sB,Zb,cutC,ld25];rfl) ⟨(hxG.trans hx56).pt (by omega) gq6 _,_,rfl,?_⟩;have htt:toldB u=cmpT sCol [u.term,x]:=by
    rw[htold,tellB,if_neg k2,if_neg k3,if_neg (fun h=>kk4 h.1),if_neg (fun h=>kk5 h.1),if_neg (fun h=>kk6 h.1),if_neg (fun h=>kk6 h.1),if_pos ⟨kk7,l7⟩];rfl
   rw[htt];have ho:RepS H6 (fun n=>(S n∨(H.next+2≤n∧n < H6.next))) (cmpT sCol [u.term,x]) (six (cmpT sCol [u.term,x]) (some ⟨b6,0,none⟩) 2):=z2y (by decide) g6 (.inr ⟨by omega,hi6⟩) hx6.wf (hrG.to fun n hn hl=>⟨hx56.keep n hl,.inl hn,by omega⟩) (r1.to fun n hn hl=>⟨hx56.keep n hl,hn.1.imp_right fun h=>⟨h.1,by omega⟩,by omega⟩);refine ho.to fun n hn hl=>?_
   have hne:n≠H.next+1:=by
    rcases hn with h|h
    ·have:=hS n h;omega
    ·omega
   exact⟨by rw[get_put,if_neg hne],hn.imp_right fun h=>⟨by omega,by rw[z06];omega⟩,by rw[z06];omega⟩
  ·have hl':(u.sub.length:Int)≠1:=by omega
   repeat' (first|refine EvC.seq ?_|(refine EvC.skip ?_;try simp only[sA])|(refine EvC.reg ?_;simp only[sB,Za,ln23,t3,z0m hl'])|(refine EvC.condF ?_ ?_;simp only[sB,Za];refine z07 ?_))
   refine⟨_,rfl,(by simp only[sG,Za,t2]),?_⟩;rw[htold];exact z3a k2 k3 (fun h=>kk4 h.1) (fun h=>kk5 h.1) (fun h=>kk6 h.1) (fun h=>kk6 h.1) (fun h=>l7 h.2)
 repeat' (first|refine EvC.seq ?_|(refine EvC.skip ?_;try simp only[sA])|(refine EvC.reg ?_;simp only[sB,Za,z0m kk7])|(refine EvC.condF ?_ ?_;simp only[sB,Za];refine z07 ?_))
 refine⟨_,rfl,(by simp only[sG,Za,t2]),?_⟩;rw[htold];exact z3a k2 k3 (fun h=>kk4 h.1) (fun h=>kk5 h.1) (fun h=>kk6 h.1) (fun h=>kk6 h.1) (fun h=>kk7 h.1)
abbrev saidT (e:Int) (b:Bool) (t:Tm) (a:Option Addr) (c:Nat):List Value:=[.int .i64 e,.bool b,.int .i64 t.kind,.string t.name,.string t.num,.int .u64 t.bits,.int .i64 t.var,.slice a t.args.length c]
abbrev said0:List Value:=[.int .i64 0,.bool false,.int .i64 0,.string Ze,.string Ze,.int .u64 0,.int .i64 0,.slice none 0 0]
def RSaid (H:Heap) (S:Nat→Prop):Er→List Value→Prop
 |.ok,cs=>cs=said0
 |.num e,cs=>e≠0∧cs=[.int .i64 e,.bool false,.int .i64 0,.string Ze,.string Ze,.int .u64 0,.int .i64 0,.slice none 0 0]
 |.ball t,cs=>∃a c,cs=saidT 0 true t a c∧RepS H S t (six t a c)
theorem RSaid.to {H H2:Heap}{S S2:Nat→Prop}{e:Er}{cs:List Value}(h:RSaid H S e cs) (hk:∀n,S n→n < H.next→H2.get n=H.get n∧S2 n∧n < H2.next):RSaid H2 S2 e cs:=by
 cases e with
 |ok=>exact h
 |num e=>exact h
 |ball t=>obtain⟨a,c,h1,h2⟩:=h;exact⟨a,c,h1,h2.to hk⟩
theorem RSaid.cells {H:Heap}{S:Nat→Prop}{e:Er}{cs:List Value}(h:RSaid H S e cs):∃n b t a c,cs=saidT n b t a c:=by
 cases e with
 |ok=>exact⟨0,false,zeroT,none,0,h⟩
 |num e=>exact⟨e,false,zeroT,none,0,h.2⟩
 |ball t=>obtain⟨a,c,h1,h2⟩:=h;exact⟨0,true,t,a,c,h1⟩
theorem rowS {H:Heap}{p:Nat}{T:TypeId}{x0 x1 x2 x3 x4 x5 x6 x7:Value}(h:H.get p=some (Blk.row [x0,x1,x2,x3,x4,x5,x6,x7] T)) :
  H.load ⟨p,0,none⟩ 1=some [x0]∧H.load ⟨p,1,none⟩ 1=some [x1]∧H.load ⟨p,2,none⟩ 6=some [x2,x3,x4,x5,x6,x7]∧H.load ⟨p,0,none⟩ 8=some [x0,x1,x2,x3,x4,x5,x6,x7]:=by
 refine⟨?_,?_,?_,?_⟩<;>simp only[Heap.load,Heap.cells,h]<;>rfl
theorem zcs {t:Tm}{a:Option Addr}{c:Nat}{S:Nat→Prop}{H:Heap}(r:RepS H S t (six t a c)) (hS:∀n,S n→n < H.next) (hw:H.wf) :
  EvF Tryz.prog okT 63 [.agg ⟨six t a c⟩] H fun v H'=>HX H H'∧v=.agg ⟨saidT 0 true t a c⟩∧RepS H' S t (six t a c):=by
 refine EvF.enter rfl Tryz.func63 (by decide) rfl ?_;(repeat refine EvC.seq ?_);refine EvC.reg ?_;simp only[sB,initTm,dBox,dAlloc,Value.cells,one,zr39];obtain⟨H2,e2,hx2,gt,gs,hn2,hw2⟩:=new2 hw (.row (six t a c) 25) (.row said0 39);simp only[e2];clear e2;have qt:=row6 gt
 repeat' (first|refine EvC.seq ?_|(refine EvC.ret ?_)|(refine EvC.reg ?_;simp only[sB,Za,Zb,Value.cells,one,reduceCtorEq,Zk,layC,ld25,bd39,st39,qt,gs]))
 have hx:=hx2.pt (i:=H.next+1) (by omega) gs (some (.row (saidT 0 true t a c) 39));exact z0a rfl (by simp only[sB,Za,reduceCtorEq];rfl) (by simp only[sB,Zb,cutC,ld39]) ⟨hx,rfl,r.to fun n hn hl=>⟨hx.keep n hl,hn,Zh hl hx.next⟩⟩
set_option maxHeartbeats 4000000 in
theorem z8l {s:ByteArray}{t:Tm}{cs:List Value}{H:Heap}(hs:s.size≤maxLen) (r0:RepT H t cs) (hf:Few 1000000 t) (hw:H.wf) :
  EvF Tryz.prog okT 28 [.string s,.agg ⟨cs⟩] H fun v H'=>HX H H'∧∃out,v=.agg ⟨out⟩∧RSaid H' (Rg H.next H'.next) (.ball (typeT s t)) out:=by
 obtain⟨a,c,cells,rfl,-⟩:=r0.six;refine EvF.enter rfl Tryz.func28 (by decide) rfl ?_;(repeat refine EvC.seq ?_);refine EvC.reg ?_;simp only[sB,initTm,dBox,dAlloc,Value.cells,one,reduceCtorEq,zr39];obtain⟨H2,e2,hx2,gt,gs,hn2,hw2⟩:=new2 hw (.row (six t a c) 25) (.row said0 39);simp only[e2];clear e2;have qt:=row6 gt;(repeat refine EvC.seq ?_);refine EvC.drw [([(0,0)],some 1),([(2,0)],some 3),([],some 4),([],some 5),([],some 6),([],none)] (by kernel_rfl) ?_;simp only[sD,sB,Za,Zb,reduceCtorEq,cl25,isAlloc,isRead];have hxb:HX H2 ⟨H2.next+7,H2.t⟩:=(HX.refl hw2).bump 7;refine(zjl hxb.wf).mono ?_;rintro v H3 ⟨rfl,hx3⟩;have n3:H2.next+7≤H3.next:=hx3.next;have hx23:=hxb.trans hx3;have qt3:=row6 (hx23.get hw2 gt);have hxh3:=hx2.trans hx23
 repeat' (first|(refine z0h ?_;simp only[sV,sD,sB,Za,reduceCtorEq,ld25,cl6,qt,qt3,isAlloc,isRead]))
 refine(z3o (r0.mono hxh3 hw) hf hx3.wf).mono ?_;rintro v H4 ⟨hx4,out,rfl,hot⟩;obtain⟨a4,c4,cells4,rfl,-⟩:=hot.rep.six;have n4:=hx4.next
 repeat' (first|(refine z0h ?_;simp only[sD,sB,Za,reduceCtorEq,cl23]))
 refine(zln (s:=sTypeE) (t:=atmT s) (a:=none) (c:=0) (u:=t) (a':=a4) (c':=c4) hx4.wf).mono ?_;rintro v H5 ⟨b5,rfl,g5,lo5,hi5,hx5⟩;have hr:RepS H5 (fun n=>n=b5∨(H3.next≤n∧n < H4.next)) (typeT s t) (six (typeT s t) (some ⟨b5,0,none⟩) 2):=z2y (by decide) g5 (.inl rfl) hx5.wf (z1z hs) (hot.1.to fun n hn hl=>⟨hx5.keep n hl,.inr hn,by have:=hx5.next;omega⟩);have n5:=hx5.next
 repeat' (first|(refine z0h ?_;simp only[sD,sB,Za,reduceCtorEq,cl63]))
 refine(zcs (a:=some ⟨b5,0,none⟩) (c:=2) hr (fun n hn=>by rcases hn with rfl|hn<;>omega) hx5.wf).mono ?_;rintro v H6 ⟨hx6,rfl,hr6⟩;have hx46:=(hx23.trans hx4).trans (hx5.trans hx6);have gs6:=hx46.get hw2 gs;have n6:=hx6.next
 repeat' (first|(refine EvC.ret ?_)|(refine z0h ?_;simp only[sD,sB,Za,Zb,one,reduceCtorEq,st39,gs6]))
 refine z0a rfl (by simp only[sB,Za,reduceCtorEq];rfl) (by simp only[sB,Zb,cutC,ld39]) ⟨(hx2.trans hx46).pt (i:=H.next+1) (by omega) gs6 _,_,rfl,some ⟨b5,0,none⟩,2,rfl,hr6.to fun n hn hl=>?_⟩;have hn2:H.next+2≤n∧n < H6.next:=by rcases hn with rfl|hn<;>omega
 exact⟨by rw[get_put,if_neg (by omega)],⟨by omega,by rw[z06];omega⟩,by rw[z06];omega⟩
set_option maxHeartbeats 4000000 in
theorem zmg {s:ByteArray}{H:Heap}(hs:s.size≤maxLen) (hw:H.wf) :
  EvF Tryz.prog okT 48 [.string s] H fun v H'=>HX H H'∧∃out,v=.agg ⟨out⟩∧RSaid H' (Rg H.next H'.next) (.ball (resT s)) out:=by
 refine EvF.enter rfl Tryz.func48 (by decide) rfl ?_;(repeat refine EvC.seq ?_);refine EvC.reg ?_;simp only[sA,initTm,dAlloc,zr39];obtain⟨H2,e2,hx2,gs,hn2,hw2⟩:=new1 hw (.row said0 39);simp only[e2];clear e2;(repeat refine EvC.seq ?_);refine EvC.reg ?_;simp only[sB,Za,Zb,Value.cells,reduceCtorEq,layC,cl25,z4s];refine(zjl hw2).mono ?_;rintro v H3 ⟨rfl,hx3⟩;have n3:=hx3.next
 repeat' (first|(refine z0i ?_;simp only[sB,Za,Zb,one,reduceCtorEq,cl24,cl63]))
 obtain⟨H4,e4,hx4,g4,hn4,hw4⟩:=new1 hx3.wf (.row (six (atmT s) none 0) 25);simp only[e4];refine(F_ev (cs:=six (atmT s) none 0) (by decide) (by decide) (ld1 g4 rfl) rfl hw4).mono ?_;rintro v H5 ⟨rfl,g5,n5',hx5⟩;have hr:RepS H5 (fun n=>n=H4.next+2) (resT s) (six (resT s) (some ⟨H4.next+2,0,none⟩) 1):=RepS.row (t:=resT s) (z5t (by decide)) rfl g5 rfl (hx5.wf _ _ g5) (Zg _) (Zg _) (by decide) fun j hj=>by
  match j,hj with
  |0,_=>exact z1z hs
 skip
 refine(zcs (a:=some ⟨H4.next+2,0,none⟩) (c:=1) hr (fun n hn=>by omega) hx5.wf).mono ?_;rintro v H6 ⟨hx6,rfl,hr6⟩;have hx26:=((hx3.trans hx4).trans hx5).trans hx6;have gs6:=hx26.get hw2 gs;have n6:=hx6.next
 repeat' (first|(refine EvC.ret ?_)|(refine z0i ?_;simp only[sB,Zb,one,st39,gs6]))
 refine z0a rfl (by simp only[sB,Za,reduceCtorEq];rfl) (by simp only[sB,Zb,cutC,ld39]) ⟨(hx2.trans hx26).pt (i:=H.next) (by omega) gs6 _,_,rfl,some ⟨H4.next+2,0,none⟩,1,rfl,hr6.to fun n hn hl=>?_⟩;exact⟨by rw[get_put,if_neg (by omega)],⟨by omega,by rw[z06];omega⟩,by rw[z06];omega⟩
def noneB:Er→Bool
 |.ok=>true
 |_=>false
theorem z78 {e:Er}{S:Nat→Prop}{cs:List Value}{H:Heap}(h:RSaid H S e cs) (hw:H.wf):EvF Tryz.prog okT 41 [.agg ⟨cs⟩] H fun v H'=>v=.bool (noneB e)∧HX H H':=by
 cases e with
 |ok =>
  obtain rfl:cs=said0:=h;refine EvF.enter rfl Tryz.func41 (by decide) rfl ?_;(repeat refine EvC.seq ?_);refine EvC.reg ?_;simp only[sB,initTm,dBox,Value.cells,one];obtain⟨H2,e2,hx2,gs,hn2,hw2⟩:=new1 hw (.row said0 39);simp only[e2];have qs:=rowS gs
  repeat' (first|refine EvC.seq ?_|(refine EvC.ret ?_)|(refine EvC.reg ?_;simp only[sB,Za,reduceCtorEq,zks,ld37,zpo,ld4,qs,z0k]))
  exact z03 rfl (by simp only[sB,Za,reduceCtorEq];rfl) ⟨rfl,hx2⟩
 |num e =>
  obtain⟨he,rfl⟩:=h;refine EvF.enter rfl Tryz.func41 (by decide) rfl ?_;(repeat refine EvC.seq ?_);refine EvC.reg ?_;simp only[sB,initTm,dBox,Value.cells,one];obtain⟨H2,e2,hx2,gs,hn2,hw2⟩:=new1 hw (.row [.int .i64 e,.bool false,.int .i64 0,.string Ze,.string Ze,.int .u64 0,.int .i64 0,.slice none 0 0] 39);simp only[e2];have qs:=rowS gs
  repeat' (first|refine EvC.seq ?_|(refine EvC.ret ?_)|(refine EvC.reg ?_;simp only[sB,Za,reduceCtorEq,zks,ld37,qs,z0m he,Zd]))
  exact z03 rfl (by simp only[sB,Za,reduceCtorEq];rfl) ⟨rfl,hx2⟩
 |ball t =>
  obtain⟨a,c,rfl,-⟩:=h;refine EvF.enter rfl Tryz.func41 (by decide) rfl ?_;(repeat refine EvC.seq ?_);refine EvC.reg ?_;simp only[sB,initTm,dBox,Value.cells,one];obtain⟨H2,e2,hx2,gs,hn2,hw2⟩:=new1 hw (.row (saidT 0 true t a c) 39);simp only[e2];have qs:=rowS gs
  repeat' (first|refine EvC.seq ?_|(refine EvC.ret ?_)|(refine EvC.reg ?_;simp only[sB,Za,reduceCtorEq,zks,ld37,zpo,ld4,qs,z0k,Zp]))
  exact z03 rfl (by simp only[sB,Za,reduceCtorEq];rfl) ⟨rfl,hx2⟩
noncomputable def madeE (t:Tm):Er:=match bodyF (SizeOf.sizeOf t+1) t with
 |none=>.ball (typeT sCallable t)
 |some b=>if 4000 < cnt (toldB b) 0 then .ball (resT sNodes) else .ok
set_option maxHeartbeats 8000000 in
theorem zoi {t:Tm}{cs:List Value}{H:Heap}(r0:RepT H t cs) (hc:checkS t=0) (hw:H.wf) :
  EvF Tryz.prog okT 78 [.agg ⟨cs⟩] H fun v H'=>HX H H'∧∃out,v=.agg ⟨out⟩∧RSaid H' (Rg H.next H'.next) (madeE t) out:=by
 obtain⟨a,c,cells,rfl,-⟩:=r0.six;refine EvF.enter rfl Tryz.func78 (by decide) rfl ?_;(repeat refine EvC.seq ?_);refine EvC.reg ?_;simp only[sB,initTm,dBox,dAlloc,Value.cells,one,zr39];obtain⟨H2,e2,hx2,gt,gs,hn2,hw2⟩:=new2 hw (.row (six t a c) 25) (.row said0 39);simp only[e2];clear e2;have qt:=row6 gt;(repeat refine EvC.seq ?_);refine EvC.reg ?_;simp only[sB,Za,reduceCtorEq,ld25,cl45,qt];refine(z77 _ t _ H2 (Zf _) (r0.mono hx2 hw) hc hw2).mono ?_;rintro v H3 ⟨hx3,out,bd,rfl,hob,hbd⟩;obtain⟨ta,tc,sa,sc,rfl⟩:=hob.rep.eight;have n3:=hx3.next;try simp only[sB,dAlloc,Za,Zb,one,reduceCtorEq,zr30,st30]
 obtain⟨H4,e4,hx4,g4,hn4,hw4⟩:=z0l hx3.wf (.row zero8 30) (.row (eightT bd.kind bd.term ta tc sa bd.sub.length sc) 30);simp only[e4];clear e4;have hx24:=hx3.trans hx4;have gs4:=hx24.get hw2 gs;have qt4:=row6 (hx24.get hw2 gt);have q4:=row8 g4;have hxf:=hx2.trans hx24;cases ho:bodyF (SizeOf.sizeOf t+1) t with
 |none =>
  have hm:madeE t=.ball (typeT sCallable t):=by unfold madeE;rw[ho]
  (repeat refine EvC.seq ?_);refine EvC.reg ?_;simp only[sB,Za,reduceCtorEq];refine EvC.condT (by simp only[sB,Za,reduceCtorEq,Option.isSome_none,Zt]) ?_;(try refine EvC.skip ?_);(try simp only[z00,z01]);(repeat refine EvC.seq ?_);refine EvC.reg ?_;simp only[sB,Za,reduceCtorEq,ld25,cl28,qt4];refine(z8l (s:=sCallable) (by decide) (r0.mono hxf hw) (few6 hc) hw4).mono ?_;rintro v H5 ⟨hx5,outS,rfl,hsd⟩;obtain⟨en,eb,et,ea,ec,rfl⟩:=hsd.cells;have gs5:=hx5.get hw4 gs4;have n5:=hx5.next
  repeat' (first|(refine EvC.ret ?_;try simp only[z04,z02])|(refine z0i ?_;simp only[sB,Zb,one,st39,gs5]))
  refine z0a rfl (by simp only[sB,Za,reduceCtorEq];rfl) (by simp only[sB,Zb,cutC,ld39];rfl) ⟨(hxf.trans hx5).pt (i:=H.next+1) (by omega) gs5 _,_,rfl,?_⟩;rw[hm];refine hsd.to fun n hn hl=>?_
  have:=hn.1;exact⟨by rw[get_put,if_neg (by omega)],⟨by omega,by rw[z06];exact hl⟩,by rw[z06];exact hl⟩
 |some bd' =>
  obtain rfl:=hbd bd' ho;have hfew:=(z54 (z0e.1 hc).2 ho).up (m:=1000000) (by decide);(repeat refine EvC.seq ?_);refine EvC.reg ?_;simp only[sB,Za,reduceCtorEq];refine EvC.condF (by simp only[sB,Za,reduceCtorEq,Option.isSome_some,Zp]) ?_;(try refine EvC.skip ?_);(try simp only[z00,z01]);(repeat refine EvC.seq ?_);refine EvC.reg ?_;simp only[sB,Za,reduceCtorEq,ld30,cl47,cl46,q4];have hob4:=hob.keep hx4;refine(z8k (Zf _) hob4.bi hfew (fun n hn=>by have:=hn.2;omega) hw4).mono ?_;rintro v H5 ⟨hx5,outT,rfl,hrT⟩
  skip
  refine(z1u _ _ _ hrT.rep hx5.wf).mono ?_;rintro v H6 ⟨rfl,hx6⟩;have hx46:=hx5.trans hx6;have gs6:=hx46.get hw4 gs4;have n5:=hx5.next;have n6:=hx6.next;have hxg:=hxf.trans hx46;try simp only[sA]
  by_cases h4:4000 < cnt (toldB bd) 0
  ·have hd:decide (((cnt (toldB bd) 0:Nat):Int) > 4000)=true:=by rw[z3m];exact decide_eq_true h4
   have hm:madeE t=.ball (resT sNodes):=by unfold madeE;rw[ho];simp only;rw[if_pos h4]
   refine EvC.condT (by simp only[sB,Za,reduceCtorEq,hd]) ?_;(try refine EvC.skip ?_);(try simp only[z00,z01]);(repeat refine EvC.seq ?_);refine EvC.reg ?_;simp only[sB,Za,reduceCtorEq,cl48];refine(zmg (s:=sNodes) (by decide) hx46.wf).mono ?_;rintro v H7 ⟨hx7,outS,rfl,hsd⟩;obtain⟨en,eb,et,ea,ec,rfl⟩:=hsd.cells;have gs7:=hx7.get hx46.wf gs6;have n7:=hx7.next
   repeat' (first|(refine EvC.ret ?_;try simp only[z04,z02])|(refine z0i ?_;simp only[sB,Zb,one,st39,gs7]))
   refine z0a rfl (by simp only[sB,Za,reduceCtorEq];rfl) (by simp only[sB,Zb,cutC,ld39];rfl) ⟨(hxg.trans hx7).pt (i:=H.next+1) (by omega) gs7 _,_,rfl,?_⟩;rw[hm];refine hsd.to fun n hn hl=>?_
   have:=hn.1;exact⟨by rw[get_put,if_neg (by omega)],⟨by omega,by rw[z06];exact hl⟩,by rw[z06];exact hl⟩
  ·have hd:decide (((cnt (toldB bd) 0:Nat):Int) > 4000)=false:=by rw[z3m];exact decide_eq_false h4
   have hm:madeE t=.ok:=by unfold madeE;rw[ho];simp only;rw[if_neg h4]
   refine EvC.condF (by simp only[sB,Za,reduceCtorEq,hd]) ?_;(try refine EvC.skip ?_);(try simp only[z00,z01])
   repeat' (first|refine EvC.seq ?_|(refine EvC.ret ?_)|(refine EvC.reg ?_;simp only[sB,Za,Zb,Value.cells,one,reduceCtorEq,layC,st39,bd39,gs6]))
   refine z0a rfl (by simp only[sB,Za,reduceCtorEq];rfl) (by simp only[sB,Zb,cutC,ld39];rfl) ⟨hxg.pt (i:=H.next+1) (by omega) gs6 _,_,rfl,?_⟩;rw[hm];rfl
def RReadyEnd (H:Heap) (t:Tm) (v:Value) (H':Heap):Prop:=HX H H'∧∃out sd,v=.tuple ⟨[.agg ⟨out⟩,.agg ⟨sd⟩]⟩∧OB H' 30 25 (Rg H.next H'.next) (readyS t).1 out∧RSaid H' (Rg H.next H'.next) (readyS t).2 sd
theorem zjn {t:Tm}(hc:checkS t=0):(readyS t).2=madeE t∧(madeE t≠.ok→(readyS t).1=zeroB)∧(madeE t=.ok→bodyF (SizeOf.sizeOf t+1) t=some (readyS t).1):=by
 unfold readyS madeE;rw[if_neg (fun h=>h hc)];cases bodyF (SizeOf.sizeOf t+1) t with
 |none=>exact⟨rfl,fun _=>rfl,fun h=>by cases h⟩
 |some b =>
  simp only;split
  ·exact⟨rfl,fun _=>rfl,fun h=>by cases h⟩
  ·exact⟨rfl,fun h=>absurd rfl h,fun _=>rfl⟩
theorem zct {P:Program}{ok:Ok}{fn:Func}{tm:Tr Value}{H:Heap}{K:Value→Heap→Prop}{a b:Tmp}{t t':TypeId}{ad bd:Addr}{v u:Value}(h:fn.results.toList=[.cell a t,.cell b t']) (ha:tm.get a=some (.pointer (some ad))) (hv:dLoad P t (.pointer (some ad)) H=some (.val v H))
  (hb:tm.get b=some (.pointer (some bd))) (hu:dLoad P t' (.pointer (some bd)) H=some (.val u H)) (hk:K (.tuple ⟨[v,u]⟩) H):Ex.leave P ok fn K .ret ⟨tm,[],H⟩:=by
 refine EvV.now (v:=.tuple ⟨[v,u]⟩) ?_ hk;have key:∀{t:TypeId}{ad:Addr}{v:Value},dLoad P t (.pointer (some ad)) H=some (.val v H)→dload P t ad H=some v:=fun {t ad v} hd=>by
  unfold dLoad at hd;simp only at hd;cases h1:dload P t ad H with
  |none=>rw[h1] at hd;simp at hd
  |some w=>rw[h1] at hd;simp at hd;rw[hd]
 simp [dres,h,dresL,dres1,ha,hb,key hv,key hu]
set_option maxHeartbeats 8000000 in
theorem zmh {t:Tm}{cs:List Value}{H:Heap}(r0:RepT H t cs) (hw:H.wf):EvF Tryz.prog okT 58 [.agg ⟨cs⟩] H (RReadyEnd H t):=by
 obtain⟨a,c,cells,rfl,-⟩:=r0.six;refine EvF.enter rfl Tryz.func58 (by decide) rfl ?_;(repeat refine EvC.seq ?_);refine EvC.reg ?_;simp only[sB,initTm,dBox,dAlloc,Value.cells,one,zr30,zr39];obtain⟨H2,e2,hx2,gt,gb,gs,hn2,hw2⟩:=zlm hw (.row (six t a c) 25) (.row zero8 30) (.row said0 39);simp only[e2];clear e2;have gs:H2.get (H.next+1+1)=some (.row said0 39):=gs;have qt:=row6 gt;(repeat refine EvC.seq ?_);refine EvC.reg ?_;simp only[sB,Za,reduceCtorEq,ld25,cl14,qt];refine(z4x t _ _ (r0.mono hx2 hw) hw2).mono ?_;rintro v H3 ⟨rfl,hx3⟩;have gt3:=hx3.get hw2 gt;have gb3:=hx3.get hw2 gb;have gs3:=hx3.get hw2 gs;have hx:=hx2.trans hx3;have n3:=hx3.next;have hww:=hx.wf;have qt3:=row6 gt3;have ne1:(H.next+2=H.next+1)=False:=by simp
 by_cases h0:checkS t=0;rotate_left
 ·have hrs:readyS t=(zeroB,.num (checkS t)):=by unfold readyS;rw[if_pos h0]
  repeat' (first|refine EvC.seq ?_|(refine EvC.ret ?_;try simp only[z04,z02])|(refine EvC.reg ?_;simp only[sB,Za,Zb,Value.cells,one,reduceCtorEq,Zk,layC,bd30,bd39,st30,st39,z1j h0,gb3,gs3,ne1,neu,neu'])|(refine EvC.condT ?_ ?_;simp only[sB,Za,reduceCtorEq,neu'];refine z07 ?_))
  refine zct rfl (by simp only[sB,Za,reduceCtorEq];rfl) (by simp only[sB,Zb,cutC,ld30,neu];rfl) (by simp only[sB,Za,reduceCtorEq];rfl) (by simp only[sB,Za,Zb,cutC,ld39];rfl) ⟨(hx.pt (i:=H.next+1) (by omega) gb3 _).pt (i:=H.next+1+1) (by omega) (by rw[get_put,if_neg (by omega)];exact gs3) _,_,_,rfl,?_,?_⟩
  ·rw[hrs];exact OB.nil (by decide)
  ·rw[hrs];exact⟨h0,rfl⟩
 obtain⟨hm2,hm1,hmb⟩:=zjn h0;(repeat refine EvC.seq ?_);refine EvC.reg ?_;simp only[sB,Za,reduceCtorEq,z0z h0];refine EvC.condF (by simp only[sB,Za,reduceCtorEq]) ?_;(try refine EvC.skip ?_);(try simp only[z00,z01]);(repeat refine EvC.seq ?_);refine EvC.reg ?_;simp only[sB,dAlloc,Za,reduceCtorEq,zr39,ld25,cl78,qt3];refine(zoi (r0.mono hx hw) h0 hww).mono ?_;rintro v H4 ⟨hx4,outM,rfl,hsd⟩;obtain⟨en,eb,et,ea,ec,rfl⟩:=hsd.cells;have n4:=hx4.next;try simp only[sB,Zb,one,st39]
 obtain⟨H5,e5,hx5,g5,hn5,hw5⟩:=z0l hx4.wf (.row said0 39) (.row (saidT en eb et ea ec) 39);simp only[e5];clear e5;have q5:=rowS g5;have hx45:=hx4.trans hx5;have hsd5:RSaid H5 (Rg H3.next H4.next) (madeE t) (saidT en eb et ea ec):=hsd.to fun n hn hl=>⟨hx5.keep n hl,hn,by omega⟩
 (repeat refine EvC.seq ?_);refine EvC.reg ?_;simp only[sB,Za,reduceCtorEq,ld39,cl41,q5];refine(z78 hsd5 hw5).mono ?_;rintro v H6 ⟨rfl,hx6⟩;have hx36:=hx45.trans hx6;have n6:=hx6.next;have gb6:=hx36.get hww gb3;have gs6:=hx36.get hww gs3;have q6:=rowS (hx6.get hw5 g5);have qt6:=row6 (hx36.get hww gt3);have hxf:=hx.trans hx36;have hw6:=hx6.wf;by_cases hmo:madeE t=.ok
 ·have hnn:noneB (madeE t)=true:=by rw[hmo];rfl
  try simp only[]
  (repeat refine EvC.seq ?_);refine EvC.reg ?_;simp only[sB,Za,reduceCtorEq];refine EvC.condF (by simp only[sB,Za,reduceCtorEq,hnn,Zp]) ?_;(try refine EvC.skip ?_);(try simp only[z00,z01]);(repeat refine EvC.seq ?_);refine EvC.reg ?_;simp only[sB,Za,reduceCtorEq,ld25,cl45,qt6];refine(z77 _ t _ H6 (Zf _) (r0.mono hxf hw) h0 hw6).mono ?_;rintro v H7 ⟨hx7,out,bd,rfl,hob,hbd⟩;obtain rfl:=hbd _ (hmb hmo);obtain⟨ta,tc,sa,sc,rfl⟩:=hob.rep.eight;have n7:=hx7.next;try simp only[sB,dAlloc,Za,Zb,one,reduceCtorEq,zr30,st30]
  obtain⟨H8,e8,hx8,g8,hn8,hw8⟩:=z0l hx7.wf (.row zero8 30) (.row (eightT (readyS t).1.kind (readyS t).1.term ta tc sa (readyS t).1.sub.length sc) 30);simp only[e8];clear e8;have q8:=row8 g8;have hx68:=hx7.trans hx8;have gb8:=hx68.get hw6 gb6;have gs8:=hx68.get hw6 gs6;have lgs:=hw8 _ _ gs8;have n8:=hx8.next
  repeat' (first|refine EvC.seq ?_|(refine EvC.ret ?_)|(refine EvC.reg ?_;simp only[sB,Za,Zb,Value.cells,one,reduceCtorEq,layC,bd39,st30,st39,ld30,q8,gb8,gs8,ne1,neu,neu']))
  refine zct rfl (by simp only[sB,Za,reduceCtorEq];rfl) (by simp only[sB,Zb,cutC,ld30,neu];rfl) (by simp only[sB,Za,reduceCtorEq];rfl) (by simp only[sB,Za,Zb,cutC,ld39];rfl) ⟨((hxf.trans hx68).pt (i:=H.next+1) (by omega) gb8 _).pt (i:=H.next+1+1) (by omega) (by rw[get_put,if_neg (by omega)];exact gs8) _,_,_,rfl,?_,?_⟩
  ·refine(hob.keep hx8).to (fun n hn hl=>⟨by have:=hn.1;rw[get_put,if_neg (by omega),get_put,if_neg (by omega)],by rw[z06,z06];exact hl⟩) fun n hn=>⟨by have:=hn.1;omega,by rw[z06,z06];have:=hn.2;omega⟩
  ·rw[hm2,hmo];rfl
 ·have hnn:noneB (madeE t)=false:=by
   cases h:madeE t with
   |ok=>exact absurd h hmo
   |num e=>rfl
   |ball t=>rfl
  try simp only[]
  (repeat refine EvC.seq ?_);refine EvC.reg ?_;simp only[sB,Za,reduceCtorEq];refine EvC.condT (by simp only[sB,Za,reduceCtorEq,hnn,Zt]) ?_;(try refine EvC.skip ?_);(try simp only[z00,z01]);have ne5:(H4.next=H.next+1)=False:=by simp;omega
  have ne6:(H4.next=H.next+2)=False:=by simp;omega
  repeat' (first|refine EvC.seq ?_|(refine EvC.ret ?_;try simp only[z04,z02])|(refine EvC.drw [([(0,0)],some 2),([(1,0)],some 3),([],none)] ?_ ?_;kernel_rfl;simp only[sV,sD,sB,Za,Zb,Value.cells,one,reduceCtorEq,cutC,layC,bd30,st30,st39,ld39,gb6,gs6,q6,ne1,ne5,neu,neu',isAlloc,isRead]))
  have gk:=fun (n:Nat) (hl:n < H6.next)=>(zc6 (H:=H6) (n:=H6.next+4) (i:=n))
  have gx:HX H { H6 with next:=H6.next+4 }:=hxf.bump 4;have gb7:=(gk _ (hw6 _ _ gb6)).trans gb6;have gs7:=(gk _ (hw6 _ _ gs6)).trans gs6;refine zct rfl (by simp only[sB,Za,reduceCtorEq];rfl) (by simp only[sB,Zb,cutC,ld30,neu];rfl) (by simp only[sB,Za,reduceCtorEq];rfl) (by simp only[sB,Za,Zb,cutC,ld39];rfl) ⟨(gx.pt (i:=H.next+1) (by omega) gb7 _).pt (i:=H.next+1+1) (by omega) (by rw[get_put,if_neg (by omega)];exact gs7) _,_,_,rfl,?_,?_⟩
  ·rw[hm1 hmo];exact OB.nil (by decide)
  ·rw[hm2];exact hsd5.to fun n hn hl=>by
    have:=hn.1;have h1:=hx6.keep n hl;have h2:=hx6.next;have h3:=gk n (by omega);exact⟨by rw[get_put,if_neg (by omega),get_put,if_neg (by omega)];exact h3.trans h1,⟨by omega,by rw[z06,z06];show n < H6.next+4;omega⟩,by rw[z06,z06];show n < H6.next+4;omega⟩
abbrev mark8:List Value:=[.int .i64 (-1),.int .i64 0,.string Ze,.string Ze,.int .u64 0,.int .i64 0,.slice none 0 0,.slice none 0 0]
abbrev mark1:List Value:=[.int .i64 (-1),.string Ze,.string Ze,.int .u64 0,.int .i64 0,.slice none 0 0]
end Go.Proofs.hq
end

section
namespace Go.Hb
open Go Go.RowKit
def dNilK (v:Value) (H:Heap):Option Dr:=match v with
 |.pointer (some a)=>some (.val (.pointer (some a)) H)
 |.func (.func f) a b=>some (.val (.func (.func f) a b) H)
 |_=>none
theorem zi6 {P:Program}{H:Heap}{d:Option Tmp}{x:Operand}{ty:TypeId}{pos:String}{af:Array Edge}{g:Option (Nat × Bool)}{ρ:Operand→Value}:dop P ⟨d,.nilCheck x,ty,pos,af,g⟩ ρ H=dNilK (ρ x) H:=_root_.id rfl
theorem zew {H:Heap}{a:Addr}:dNilK (.pointer (some a)) H=some (.val (.pointer (some a)) H):=_root_.id rfl
end Go.Hb
namespace Go.Proofs.hq
open Go Go.RowKit Go.Hb
variable {ok:Ok}
set_option maxRecDepth 10000
attribute [local irreducible] LX LG EL STG SOP SGO SGD SAL SRD SEF SEG SLK SCK ES
theorem zmi:taZ Tryz.prog 68=some (.pointer none):=by kernel_rfl
end Go.Proofs.hq
end

section
namespace Go.Proofs.hq
open Go Go.RowKit Go.Hb
variable {ok:Ok}
set_option maxRecDepth 10000
attribute [local irreducible] LX LG EL STG SOP SGO SGD SAL SRD SEF SEG SLK SCK ES
abbrev sClause:ByteArray:=⟨#[99,108,97,117,115,101]⟩
structure Cls where
 head:Tm
 body:Bdy
 vars:Int
def zeroC:Cls:=⟨zeroT,zeroB,0⟩
noncomputable def madeC (h r:Tm):Cls:=⟨(plainL [h,r]).getD 0 zeroT,(readyS ((plainL [h,r]).getD 1 zeroT)).1,(uniq (occL (plainL [h,r]))).length⟩
noncomputable def readB (m:ByteArray) (h r:Tm):ByteArray × Cls × Er :=
 if h.kind=1 then (Ze,zeroC,.ball (atmT sInst))
 else if isNum h then (Ze,zeroC,.ball (typeT sCallable h))
 else match bodyF (SizeOf.sizeOf r+1) r with
  |none=>(Ze,zeroC,.ball (typeT sCallable r))
  |some b=>if 400 < cnt h 0+cnt (toldB b) 0 then (Ze,zeroC,.ball (resT sClause)) else (m,madeC h r,.ok)
noncomputable def readH (m:ByteArray) (h r:Tm):ByteArray × Cls × Er :=
 match stripS m h with
 |(m2,h2,.ok)=>readB m2 h2 r
 |(_,_,e)=>(Ze,zeroC,e)
noncomputable def headOf (t:Tm):Tm:=if isF t sNck then t.at 0 else t
noncomputable def restOf (t:Tm):Tm:=if isF t sNck then t.at 1 else atmT sTrue
noncomputable def readS (m:ByteArray) (t:Tm):ByteArray × Cls × Er :=
 if checkS t≠0 then (Ze,zeroC,.num (checkS t))
 else match stripS m t with
  |(m1,t1,.ok)=>readH m1 (headOf t1) (restOf t1)
  |(_,_,e)=>(Ze,zeroC,e)
abbrev fift (h:Tm) (ha:Option Addr) (hc:Nat) (k:Int) (t:Tm) (ta:Option Addr) (tc:Nat) (a:Option Addr) (n c:Nat) (v:Int):List Value :=
 [.int .i64 h.kind,.string h.name,.string h.num,.int .u64 h.bits,.int .i64 h.var,.slice ha h.args.length hc,.int .i64 k,.int .i64 t.kind,.string t.name,.string t.num,.int .u64 t.bits,.int .i64 t.var,.slice ta t.args.length tc,.slice a n c,.int .i64 v]
abbrev zero15:List Value:=[.int .i64 0,.string Ze,.string Ze,.int .u64 0,.int .i64 0,.slice none 0 0,.int .i64 0,.int .i64 0,.string Ze,.string Ze,.int .u64 0,.int .i64 0,.slice none 0 0,.slice none 0 0,.int .i64 0]
def RepC (H:Heap) (S:Nat→Prop) (c:Cls) (cs:List Value):Prop:=∃ha hc ta tc a k,cs=fift c.head ha hc c.body.kind c.body.term ta tc a c.body.sub.length k c.vars∧RepS H S c.head (six c.head ha hc)∧OB H 30 25 S c.body (eightT c.body.kind c.body.term ta tc a c.body.sub.length k)
theorem RepC.zero {H:Heap}{S:Nat→Prop}:RepC H S zeroC zero15:=⟨none,0,none,0,none,0,rfl,RepS.leaf z52 rfl (Zs _) fun _=>rfl,OB.nil (by decide)⟩
theorem RepC.to {H H2:Heap}{S S2:Nat→Prop}{c:Cls}{cs:List Value}(h:RepC H S c cs) (hk:∀n,S n→n < H.next→H2.get n=H.get n∧S2 n∧n < H2.next) (hs:∀n,S n→S2 n):RepC H2 S2 c cs:=by
 obtain⟨ha,hc,ta,tc,a,k,h1,h2,h3⟩:=h;exact⟨ha,hc,ta,tc,a,k,h1,h2.to hk,h3.to (fun n hn hl=>⟨(hk n hn hl).1,(hk n hn hl).2.2⟩) hs⟩
theorem z0u {H:Heap}{p:Nat}{T:TypeId}{x0 x1 x2 x3 x4 x5 x6 x7 x8 x9 xa xb xc xd xe:Value}(h:H.get p=some (Blk.row [x0,x1,x2,x3,x4,x5,x6,x7,x8,x9,xa,xb,xc,xd,xe] T)) :
  H.load ⟨p,0,none⟩ 6=some [x0,x1,x2,x3,x4,x5]∧H.load ⟨p,6,none⟩ 8=some [x6,x7,x8,x9,xa,xb,xc,xd]∧H.load ⟨p,14,none⟩ 1=some [xe]∧H.load ⟨p,0,none⟩ 15=some [x0,x1,x2,x3,x4,x5,x6,x7,x8,x9,xa,xb,xc,xd,xe]:=by
 refine⟨?_,?_,?_,?_⟩<;>simp only[Heap.load,Heap.cells,h]<;>rfl
def ReadEnd (H:Heap) (R:ByteArray × Cls × Er) (v:Value) (H':Heap):Prop:=HX H H'∧∃cs ev,v=.tuple ⟨[.string R.1,.agg ⟨cs⟩,ev]⟩∧RepC H' (Rg H.next H'.next) R.2.1 cs∧RepES H' (Rg H.next H'.next) R.2.2 ev
theorem zq4:isIface Tryz.prog 34=true:=by kernel_rfl
theorem zex {H:Heap}{x y:Operand}{T:TypeId}{v:Value}:dBin Tryz.prog .neq 34 x y (.iface T v) .nilIface H=some (.val (.bool true) H):=by
 simp only[dBin,dnil,zq4,nilEq,if_true]
theorem ztc {H:Heap}{x y:Operand}{T:TypeId}{v:Value}:dBin Tryz.prog .eql 34 x y (.iface T v) .nilIface H=some (.val (.bool false) H):=by
 simp only[dBin,dnil,zq4,nilEq,if_true]
theorem zbb {n:Nat}{H:Heap}:dBin Tryz.prog .neq 34 (.tmp n) (.const .nilIface) .nilIface .nilIface H=some (.val (.bool false) H):=by kernel_rfl
theorem ztd {n:Nat}{H:Heap}:dBin Tryz.prog .eql 34 (.tmp n) (.const .nilIface) .nilIface .nilIface H=some (.val (.bool true) H):=by kernel_rfl
theorem RepE.some {H:Heap}{e:Er}{v:Value}(h:RepE H e v) (he:e≠.ok):∃T x,v=.iface T x:=by
 cases e with
 |ok=>exact absurd rfl he
 |num n=>exact⟨_,_,h⟩
 |ball t=>obtain⟨p,a,c,h,-⟩:=h;exact⟨_,_,h⟩
theorem z5l:checkS (atmT sTrue)=0:=by kernel_rfl
theorem z35 {H G:Heap}{R:ByteArray × Cls × Er}{e:Er}{ev:Value}{tm:Tr Value}{cs5:List Value}{lo hi:Nat}(hR:R=(Ze,zeroC,e)) (hx:HX H G) (g5:G.get (H.next+1)=some (.row cs5 32)) (t4:tm.get 4=some (.string Ze)) (t5:tm.get 5=some (.pointer (some ⟨H.next+1,0,none⟩))) (t6:tm.get 6=some ev)
  (he:RepES G (Rg lo hi) e ev) (h1:H.next+2≤lo) (h2:hi≤G.next):Ex.leave Tryz.prog okT Tryz.f7 (ReadEnd H R) .ret ⟨tm,[],G.put (H.next+1) (some (.row zero15 32))⟩:=by
 have hz:=hx.pt (i:=H.next+1) (by omega) g5 (some (.row zero15 32));subst hR;refine z4y rfl t4 t5 (by simp only[sB,Zb,cutC,ld32]) t6 ⟨hz,_,_,rfl,RepC.zero,he.to fun n hn hl=>?_⟩;have:=hn.1;exact⟨by rw[get_put,if_neg (by omega)],⟨by omega,by rw[z06];exact hl⟩,by rw[z06];exact hl⟩
set_option maxHeartbeats 16000000 in
theorem zrw {m:ByteArray}{t:Tm}{cs:List Value}{H:Heap}(r0:RepT H t cs) (hw:H.wf):EvF Tryz.prog okT 7 [.string m,.agg ⟨cs⟩] H (ReadEnd H (readS m t)):=by
 obtain⟨a,c,cells,rfl,-⟩:=r0.six;refine EvF.enter rfl Tryz.func7 (by decide) rfl ?_;(repeat refine EvC.seq ?_);refine EvC.reg ?_;simp (config := { maxSteps := 2000000 }) (disch:=first|omega|rfl) only[sB,initTm,dBox,dAlloc,Value.cells,one,reduceCtorEq,zr32];obtain⟨H2,e2,hx2,g3,g5,hn2,hw2⟩:=new2 hw (.row (six t a c) 25) (.row zero15 32);simp only[e2];clear e2;(repeat refine EvC.seq ?_);refine EvC.reg ?_;simp (config := { maxSteps := 2000000 }) only[sA,dAlloc,zr32];obtain⟨H3,e3,hx3,g7,hn3,w3⟩:=new1 hw2 (.row zero15 32);simp only[e3];clear e3;have g3:=hx3.get hw2 g3;have g5:=hx3.get hw2 g5;have hx:=hx2.trans hx3;have q3:=row6 g3;(repeat refine EvC.seq ?_);refine EvC.reg ?_;simp (config := { maxSteps := 2000000 }) only[sB,Za,reduceCtorEq,ld25,cl29,q3];refine(z2s t _ _ (r0.mono hx hw) w3).mono ?_;rintro v H4 ⟨rfl,hx4⟩;have g3:=hx4.get w3 g3;have g5:=hx4.get w3 g5;have g7:=hx4.get w3 g7;have hx:=hx.trans hx4;have w4:=hx.wf;have n4:=hx4.next;have q3:=row6 g3;have q7:=z0u g7;try simp (config := { maxSteps := 2000000 }) only[]
 by_cases hc:checkS t=0;rotate_left
 ·have hR:readS m t=(Ze,zeroC,.num (checkS t)):=by unfold readS;rw[if_pos hc]
  repeat' (first|refine EvC.seq ?_|(refine EvC.ret ?_;try simp only[z04,z02])|(refine EvC.reg ?_;simp (config := { maxSteps := 2000000 }) only[sB,Za,reduceCtorEq,z1j hc])|(refine EvC.drw (id:=4) [([(0,0),(3,0)],some 4),([(1,0),(2,0),(5,1)],none)] ?_ ?_;kernel_rfl;simp (config := { maxSteps := 2000000 }) (disch:=first|omega|rfl) only[sD,sB,Za,Zb,one,reduceCtorEq,ld32,st32,q7,g5,z1c,z9s zm9,isAlloc,isRead,zhe,Bool.and_true])|(refine EvC.condT ?_ ?_;simp (config := { maxSteps := 2000000 }) only[sB,Za,reduceCtorEq];refine z07 ?_))
  exact z35 hR (hx.bump _) g5 (by simp only[sB,Za,reduceCtorEq];rfl) (by simp only[sG,Za,reduceCtorEq]) (by simp only[sG,Za,reduceCtorEq]) (RepES.num (S:=Rg (H.next+2) (H.next+2))) (Zg _) (by show H.next+2≤H4.next+_;omega)
 (repeat refine EvC.seq ?_);refine EvC.reg ?_;simp (config := { maxSteps := 2000000 }) only[sB,Za,reduceCtorEq,z0z hc];refine EvC.condF (by simp (config := { maxSteps := 2000000 }) only[sB,Za,reduceCtorEq]) ?_;(try refine EvC.skip ?_);(try simp only[z00,z01]);(repeat refine EvC.seq ?_);refine EvC.reg ?_;simp (config := { maxSteps := 2000000 }) only[sB,Za,reduceCtorEq,ld25,cl30,q3];refine(zi4 (m:=m) r0 hx hw hc w4).mono ?_;rintro v H5 ⟨hx5,a1,c1,ev1,rfl,r1,he1,hc1⟩;have g3:=hx5.get w4 g3;have g5:=hx5.get w4 g5;have g7:=hx5.get w4 g7;have hx5':=hx.trans hx5;have n5:=hx5.next;obtain⟨⟨m1,t1,e1⟩,hS⟩:∃R,stripS m t=R:=⟨_,rfl⟩
 rw[hS] at r1 he1 hc1 ⊢;simp only at r1 he1 hc1;try simp (config := { maxSteps := 2000000 }) (disch:=first|omega|rfl) only[sB,Za,Zb,one,reduceCtorEq,st25,g3]
 obtain⟨H6,e6⟩:∃H6,H5.put H.next (some (.row (six t1 a1 c1) 25))=H6:=⟨_,rfl⟩
 simp only[e6];have hx6:HX H H6:=by rw[←e6];exact hx5'.pt (i:=H.next) (Zg _) g3 _
 have n6:H6.next=H5.next:=by rw[←e6];rfl
 have k6:∀n,n≠H.next→H6.get n=H5.get n:=fun n hn=>by rw[←e6,get_put,if_neg hn]
 have g3:H6.get H.next=some (.row (six t1 a1 c1) 25):=by rw[←e6,get_put,if_pos rfl]
 have g5:=(k6 _ (by omega)).trans g5;have g7:=(k6 _ (by omega)).trans g7;clear e6;have w6:=hx6.wf;have he1:RepES H6 (Rg H4.next H5.next) e1 ev1:=he1.to fun n hn hl=>⟨k6 n (by have:=hn.1;omega),hn,by omega⟩
 have q3:=row6 g3;have q7:=z0u g7;by_cases ho:e1=.ok;rotate_left
 ·have hR:readS m t=(Ze,zeroC,e1):=by
   unfold readS;rw[if_neg (fun h=>h hc),hS];cases e1 with
   |ok=>exact absurd rfl ho
   |num n=>rfl
   |ball u=>rfl
  obtain⟨T0,x0,rfl⟩:=he1.rep.some ho
  repeat' (first|refine EvC.seq ?_|(refine EvC.ret ?_;try simp only[z04,z02])|(refine EvC.reg ?_;simp (config := { maxSteps := 2000000 }) only[sB,Za,reduceCtorEq,zex])|(refine EvC.drw (id:=7) [([(0,0),(2,0)],some 3),([(1,0),(4,1)],none)] ?_ ?_;kernel_rfl;simp (config := { maxSteps := 2000000 }) (disch:=first|omega|rfl) only[sD,sB,Za,Zb,one,reduceCtorEq,ld32,st32,q7,g5,isAlloc,isRead,Bool.and_true])|(refine EvC.condT ?_ ?_;simp (config := { maxSteps := 2000000 }) only[sB,Za,reduceCtorEq];refine z07 ?_))
  exact z35 hR (hx6.bump _) g5 (by simp only[sB,Za,reduceCtorEq];rfl) (by simp only[sG,Za,reduceCtorEq]) (by simp only[sG,Za,reduceCtorEq]) (RepES.to he1 fun n hn hl=>⟨rfl,hn,by show n < H6.next+_;omega⟩) (by omega) (by show _≤H6.next+_;omega)
 subst ho;obtain rfl:ev1=.nilIface:=he1.rep;(repeat refine EvC.seq ?_);refine EvC.reg ?_;simp (config := { maxSteps := 2000000 }) only[sB,Za,reduceCtorEq,zbb];refine EvC.condF (by simp (config := { maxSteps := 2000000 }) only[sB,Za,reduceCtorEq]) ?_;(try refine EvC.skip ?_);(try simp only[z00,z01]);(repeat refine EvC.seq ?_);refine EvC.meet (fun st=>∃tm G p10 p11,st=⟨tm,[],G⟩∧tm.get 0=some (.string m1)∧tm.get 3=some (.pointer (some ⟨H.next,0,none⟩))∧tm.get 5=some (.pointer (some ⟨H.next+1,0,none⟩))∧tm.get 7=some (.pointer (some ⟨H2.next,0,none⟩)) ∧
  tm.get 10=some (.pointer (some ⟨p10,0,none⟩))∧tm.get 11=some (.pointer (some ⟨p11,0,none⟩))∧G.get p10=some (.row (six t1 a1 c1) 25)∧G.get p11=some (.row (six (atmT sTrue) none 0) 25)∧p10≠p11∧H6.next≤p10∧H6.next≤p11∧HX H6 G) ?_ ?_
 ·refine EvC.drw [([],some 1),([(0,0),(2,0),(3,0)],some 4),([],some 5),([],none)] (by kernel_rfl) ?_;simp (config := { maxSteps := 2000000 }) only[sD,sA,Zb,cl31];have hb:=(HX.refl w6).bump 6;refine(z4k (s:=sTrue) hb.wf).mono ?_;rintro v H7 ⟨rfl,hx7⟩;have hx67:=hb.trans hx7;have q37:=row6 (hx67.get w6 g3);have n7:H6.next+6≤H7.next:=hx7.next;have w7:=hx7.wf
  repeat' (first|(refine z0h ?_;simp (config := { maxSteps := 2000000 }) (disch:=first|omega|rfl) only[sV,sD,sB,dAlloc,Za,Zb,one,reduceCtorEq,ld25,st25,zr25,q3,q37,neu,neu',isAlloc,isRead,dalloc]))
  exact⟨_,_,H6.next+2,H6.next+3,rfl,(by simp only[sG,reduceCtorEq]),(by simp only[sG,Za,reduceCtorEq]),(by simp only[sG,Za,reduceCtorEq]),(by simp only[sG,Za,reduceCtorEq]),(by simp only[sG,Za,reduceCtorEq]),(by simp only[sG,Za,reduceCtorEq]),by rw[get_put,if_neg (by omega),get_put,if_pos rfl],by rw[get_put,if_pos rfl],by omega,by omega,by omega,
   (((hx67.put (i:=H6.next+2) (by omega) (by omega) _).put (i:=H6.next+3) (by omega) (by show _ < H7.next;omega) _).put (i:=H6.next+2) (by omega) (by show _ < H7.next;omega) _).put (i:=H6.next+3) (by omega) (by show _ < H7.next;omega) _⟩
 ·rintro st ⟨tm,G,p10,p11,rfl,t0,t3,t5,t7,t10,t11,g10,g11,hne,h10,h11,hxG⟩;simp only[z00];have wG:=hxG.wf;have g3:=hxG.get w6 g3;have g5:=hxG.get w6 g5;have g7:=hxG.get w6 g7;have hxHG:=hx6.trans hxG;have q3:=row6 g3;(repeat refine EvC.seq ?_);refine EvC.reg ?_;simp (config := { maxSteps := 2000000 }) only[sB,ld25,cl32,t3,q3];refine(z87 (s:=sNck) (r1.mono hxHG hw) wG).mono ?_;rintro v H8 ⟨rfl,hx8⟩;have g3:=hx8.get wG g3;have g5:=hx8.get wG g5;have g7:=hx8.get wG g7;have g10:=hx8.get wG g10;have g11:=hx8.get wG g11;have hxH8:=hxHG.trans hx8;have q3:=row6 g3;have w8:=hx8.wf;have n8:=hx8.next;have nG:=hxG.next;try simp (config := { maxSteps := 2000000 }) only[]
  refine EvC.join (fun st=>∃tm G ah ch ar cr,st=⟨tm,[],G⟩∧tm.get 0=some (.string m1)∧tm.get 3=some (.pointer (some ⟨H.next,0,none⟩))∧tm.get 5=some (.pointer (some ⟨H.next+1,0,none⟩))∧tm.get 7=some (.pointer (some ⟨H2.next,0,none⟩)) ∧
   tm.get 10=some (.pointer (some ⟨p10,0,none⟩))∧tm.get 11=some (.pointer (some ⟨p11,0,none⟩))∧G.get p10=some (.row (six (headOf t1) ah ch) 25)∧G.get p11=some (.row (six (restOf t1) ar cr) 25) ∧ 
   G.get (H.next+1)=some (.row zero15 32)∧G.get H2.next=some (.row zero15 32)∧RepT H (headOf t1) (six (headOf t1) ah ch)∧RepT H (restOf t1) (six (restOf t1) ar cr)∧checkS (headOf t1)=0∧checkS (restOf t1)=0∧HX H G) ?_ ?_
  ·by_cases hn:isF t1 sNck
   ·obtain⟨x,y,hxy⟩:∃x y,t1.args=[x,y]:=by
     match hl:t1.args,hn.2.2 with
     |[x,y],_=>exact⟨x,y,rfl⟩
    have eh:headOf t1=x:=by unfold headOf;rw[if_pos hn];unfold Tm.at;rw[hxy];rfl
    have er:restOf t1=y:=by unfold restOf;rw[if_pos hn];unfold Tm.at;rw[hxy];rfl
    have x0:t1.args[0]'(by rw[hxy];simp)=x:=by simp [hxy]
    have y1:t1.args[1]'(by rw[hxy];simp)=y:=by simp [hxy]
    obtain⟨a0,c0,cells0,hcs,-,-,-,-,-,rl⟩:=r1.six;obtain⟨-,-,-,-,-,rfl,rfl⟩:=z4h hcs;obtain⟨b,o,ax,cx,rfl,hld0,hr0⟩:=rl.el (i:=0) (by rw[hxy];simp);obtain⟨b',o',ay,cy,e2,hld1,hr1⟩:=rl.el (i:=1) (by rw[hxy];simp);cases e2;rw[x0] at hld0 hr0;rw[y1] at hld1 hr1;simp only[Zu,Nat.add_zero,ZL] at hld0 hld1;have hcx:=z0p hc1 (u:=x) (by rw[hxy];simp);have hcy:=z0p hc1 (u:=y) (by rw[hxy];simp);have l0:=hxH8.load hw hld0;have l1:=hxH8.load hw hld1;have hxl:t1.args.length=2:=hn.2.2;have nf1:(p10=p11)=False:=eq_false hne;have nf2:(p11=p10)=False:=eq_false (Ne.symm hne);refine EvC.condT (by simp (config := { maxSteps := 2000000 }) only[sB,Za,decide_eq_true hn]) ?_;(try refine EvC.skip ?_);(try simp only[z00,z01]);have lb:=zcj hw hld0;have n56:=hx6.next;have nf3:(H.next=p10)=False:=by simp;omega
    have nf4:(b=p10)=False:=by simp;omega
    refine EvC.drw [([(0,0),(1,0),(2,0),(3,0)],some 8),([(4,0),(5,0),(6,0),(7,0)],some 9),([],none)] (by kernel_rfl) ?_;simp (config := { maxSteps := 2000000 }) (disch:=first|omega|rfl) only[sV,sD,sB,Za,Zb,one,reduceCtorEq,cutC,Zv,ld25,st25,z0j,ld23,isAlloc,isRead,t3,t10,t11,q3,g10,g11,hxl,l0,l1,iz23,Zu,ZL,nf2,nf3,nf4];rw[eh,er];have hz:=((hxH8.bump 10).pt (i:=p10) (by omega) (show Heap.get ⟨H8.next+10,H8.t⟩ p10=_ from g10) (some (.row (six x ax cx) 25))).pt (i:=p11) (by omega) (by rw[get_put,if_neg (Ne.symm hne)];exact g11) (some (.row (six y ay cy) 25));exact⟨_,_,ax,cx,ay,cy,rfl,(by simp only[sG,reduceCtorEq,t0]),(by simp only[sG,Za,t3]),(by simp only[sG,Za,t5]),(by simp only[sG,Za,t7]),(by simp only[sG,Za,t10]),(by simp only[sG,Za,t11]),by rw[get_put,if_neg hne,get_put,if_pos rfl],by rw[get_put,if_pos rfl],by rw[get_put,if_neg (by omega),get_put,if_neg (by omega)];exact g5,by rw[get_put,if_neg (by omega),get_put,if_neg (by omega)];exact g7,hr0,hr1,hcx,hcy,hz⟩
   ·have eh:headOf t1=t1:=by unfold headOf;rw[if_neg hn]
    have er:restOf t1=atmT sTrue:=by unfold restOf;rw[if_neg hn]
    rw[eh,er];refine EvC.condF (by simp (config := { maxSteps := 2000000 }) only[sB,Za,decide_eq_false hn]) ?_;(try refine EvC.skip ?_);(try simp only[z00,z01]);exact⟨_,_,a1,c1,none,0,rfl,(by simp only[sG,reduceCtorEq,t0]),(by simp only[sG,Za,t3]),(by simp only[sG,Za,t5]),(by simp only[sG,Za,t7]),(by simp only[sG,Za,t10]),(by simp only[sG,Za,t11]),g10,g11,g5,g7,r1,(z1z (S:=fun _=>False) (by decide)).rep,hc1,z5l,hxH8⟩
  ·rintro st ⟨tm,G,ah,ch,ar,cr,rfl,t0,t3,t5,t7,t10,t11,g10,g11,g5,g7,rh,rr,hch,hcr,hxG⟩;simp only[z00];have hR1:readS m t=readH m1 (headOf t1) (restOf t1):=by
    unfold readS;rw[if_neg (fun h=>h hc),hS]
   rw[hR1];generalize headOf t1=h at *;generalize restOf t1=r at *;have wG:=hxG.wf;have q10:=row6 g10;(repeat refine EvC.seq ?_);refine EvC.reg ?_;simp (config := { maxSteps := 2000000 }) only[sB,Za,ld25,cl30,t0,t10,q10];refine(zi4 (m:=m1) rh hxG hw hch wG).mono ?_;rintro v H9 ⟨hx9,a2,c2,ev2,rfl,r2,he2,hc2⟩;have lp:=wG _ _ g10;have lq:=wG _ _ g11;have l7:=wG _ _ g7;have n9:=hx9.next;have g10:=hx9.get wG g10;have g11:=hx9.get wG g11;have g5:=hx9.get wG g5;have g7:=hx9.get wG g7;have hx9':=hxG.trans hx9;obtain⟨⟨m2,t2,e2⟩,hS2⟩:∃R,stripS m1 h=R:=⟨_,rfl⟩
   rw[hS2] at r2 he2 hc2 ⊢;simp only at r2 he2 hc2;have b10:H.next+3≤p10:=by omega
   have b11:H.next+3≤p11:=by omega
   try simp (config := { maxSteps := 2000000 }) (disch:=first|omega|rfl) only[sB,Za,Zb,one,reduceCtorEq,st25,t10,g10]
   obtain⟨H10,e10⟩:∃H10,H9.put p10 (some (.row (six t2 a2 c2) 25))=H10:=⟨_,rfl⟩
   simp only[e10];have hx10:HX H H10:=by rw[←e10];exact hx9'.pt (i:=p10) (by omega) g10 _
   have n10:H10.next=H9.next:=by rw[←e10];rfl
   have k10:∀n,n≠p10→H10.get n=H9.get n:=fun n hn=>by rw[←e10,get_put,if_neg hn]
   have g10:H10.get p10=some (.row (six t2 a2 c2) 25):=by rw[←e10,get_put,if_pos rfl]
   have g5:=(k10 _ (by omega)).trans g5;have g7:=(k10 _ (by omega)).trans g7;have g11:=(k10 _ (Ne.symm hne)).trans g11;clear e10;have w10:=hx10.wf;have he2:RepES H10 (Rg G.next H9.next) e2 ev2:=he2.to fun n hn hl=>⟨k10 n (by have:=hn.1;omega),hn,by omega⟩
   have q10:=row6 g10;have q11:=row6 g11;have q7:=z0u g7;have dG:H.next+2≤G.next:=by omega
   clear g3 q3;by_cases ho2:e2=.ok;rotate_left
   ·have hR:readH m1 h r=(Ze,zeroC,e2):=by
     unfold readH;rw[hS2];cases e2 with
     |ok=>exact absurd rfl ho2
     |num n=>rfl
     |ball u=>rfl
    obtain⟨T0,x0,rfl⟩:=he2.rep.some ho2
    repeat' (first|refine EvC.seq ?_|(refine EvC.ret ?_;try simp only[z04,z02])|(refine EvC.reg ?_;simp (config := { maxSteps := 2000000 }) only[sB,Za,reduceCtorEq,zex])|(refine EvC.drw (id:=13) [([(0,0),(2,0)],some 3),([(1,0),(4,1)],none)] ?_ ?_;kernel_rfl;simp (config := { maxSteps := 2000000 }) (disch:=first|omega|rfl) only[sD,sB,Za,Zb,one,reduceCtorEq,ld32,st32,t5,t7,q7,g5,isAlloc,isRead,Bool.and_true])|(refine EvC.condT ?_ ?_;simp (config := { maxSteps := 2000000 }) only[sB,Za,reduceCtorEq];refine z07 ?_))
    exact z35 hR (hx10.bump _) g5 (by simp only[sB,Za,reduceCtorEq];rfl) (by simp only[sG,Za,reduceCtorEq,t5]) (by simp only[sG,Za,reduceCtorEq]) (RepES.to he2 fun n hn hl=>⟨rfl,hn,by show n < H10.next+_;omega⟩) dG (by show _≤H10.next+_;omega)
   subst ho2;obtain rfl:ev2=.nilIface:=he2.rep;have hR2:readH m1 h r=readB m2 t2 r:=by unfold readH;rw[hS2]
   rw[hR2];(repeat refine EvC.seq ?_);refine EvC.reg ?_;simp (config := { maxSteps := 2000000 }) only[sB,Za,reduceCtorEq,zbb];refine EvC.condF (by simp (config := { maxSteps := 2000000 }) only[sB,Za,reduceCtorEq]) ?_;(try refine EvC.skip ?_);(try simp only[z00,z01]);(repeat refine EvC.seq ?_);refine EvC.reg ?_;simp (config := { maxSteps := 2000000 }) only[sB,Za,reduceCtorEq,z0g,ld3,t10,q10];(repeat refine EvC.seq ?_);refine EvC.join (fun st=>∃tm',st=⟨tm',[],H10⟩∧tm'.get 0=some (.string m2)∧tm'.get 5=some (.pointer (some ⟨H.next+1,0,none⟩))∧tm'.get 7=some (.pointer (some ⟨H2.next,0,none⟩)) ∧
    tm'.get 10=some (.pointer (some ⟨p10,0,none⟩))∧tm'.get 11=some (.pointer (some ⟨p11,0,none⟩))∧t2.kind≠1∧¬isNum t2) ?_ ?_
   ·refine EvC.block ?_;by_cases k1:t2.kind=1
    ·have hR:readB m2 t2 r=(Ze,zeroC,.ball (atmT sInst)):=by unfold readB;rw[if_pos k1]
     (repeat refine EvC.seq ?_);refine EvC.reg ?_;simp (config := { maxSteps := 2000000 }) only[sB,Za,reduceCtorEq,z0k k1];refine EvC.condT (by simp (config := { maxSteps := 2000000 }) only[sB,Za,reduceCtorEq]) ?_;(try refine EvC.skip ?_);(try simp only[z00,z01]);(repeat refine EvC.seq ?_);refine EvC.drw [([],some 1),([],some 2),([(0,0),(3,2)],some 4),([(5,3)],none)] (by kernel_rfl) ?_;simp (config := { maxSteps := 2000000 }) only[sD,sA,Zb,cl31];have hb:=(HX.refl w10).bump 6;refine(z4k hb.wf).mono ?_;rintro v H11 ⟨rfl,hx11⟩;have w11:=hx11.wf;have q711:=z0u ((hb.trans hx11).get w10 g7)
     repeat' (first|(refine z0h ?_;simp (config := { maxSteps := 2000000 }) only[sD,sB,Za,reduceCtorEq,cl33]))
     refine(z8i (S:=fun _=>False) (z1z (by decide)) w11 (fun _ h=>h.elim)).mono ?_;rintro v H12 ⟨hx12,he12⟩;have hx02:=(hb.trans hx11).trans hx12;have q712:=z0u (hx02.get w10 g7);have g5:=hx02.get w10 g5
     repeat' (first|(refine EvC.ret ?_;try simp only[z04,z02])|(refine z0h ?_;simp (config := { maxSteps := 2000000 }) (disch:=first|omega|rfl) only[sV,sD,sB,Za,Zb,one,reduceCtorEq,ld32,st32,t5,t7,q7,q711,q712,g5,isAlloc,isRead]))
     have n11:H10.next+6≤H11.next:=hx11.next;exact z35 (lo:=H11.next) (hi:=H12.next) hR (hx10.trans hx02) g5 (by simp only[sB,Za,reduceCtorEq];rfl) (by simp only[sG,Za,reduceCtorEq,t5]) (by simp only[sG,Za,reduceCtorEq]) (he12.to fun n hn hl=>⟨rfl,hn.resolve_left (fun h=>h),hl⟩) (by omega) (Zg _)
    by_cases k3:isNum t2
    ·have hR:readB m2 t2 r=(Ze,zeroC,.ball (typeT sCallable t2)):=by unfold readB;rw[if_neg k1,if_pos k3]
     (repeat refine EvC.seq ?_);refine EvC.reg ?_;simp (config := { maxSteps := 2000000 }) only[sB,Za,reduceCtorEq,z0m k1];refine EvC.condF (by simp (config := { maxSteps := 2000000 }) only[sB,Za,reduceCtorEq]) ?_;(try refine EvC.skip ?_);(try simp only[z00,z01]);by_cases k33:t2.kind=3
     ·(repeat refine EvC.seq ?_);refine EvC.reg ?_;simp (config := { maxSteps := 2000000 }) only[sB,Za,reduceCtorEq,z0k k33];refine EvC.condT (by simp (config := { maxSteps := 2000000 }) only[sB,Za,reduceCtorEq]) ?_;(try refine EvC.skip ?_);(try simp only[z00,z01]);refine EvC.condT (by simp (config := { maxSteps := 2000000 }) only[sB,Za,reduceCtorEq]) ?_;(try refine EvC.skip ?_);(try simp only[z00,z01]);(repeat refine EvC.seq ?_);refine EvC.drw [([(1,0)],some 2),([(0,0),(3,1)],some 4),([(5,2)],none)] (by kernel_rfl) ?_;simp (config := { maxSteps := 2000000 }) only[sD,sB,Za,Zb,reduceCtorEq,ld25,cl34,isAlloc,isRead,t10,q10];have hb:=(HX.refl w10).bump 6;refine(z73 (s:=sCallable) (by decide) ((r2.mono hx10 hw).mono hb w10) hc2 hb.wf).mono ?_;rintro v H12 ⟨hx12,he12⟩;have hx02:=hb.trans hx12;have q712:=z0u (hx02.get w10 g7);have g5:=hx02.get w10 g5
      repeat' (first|(refine EvC.ret ?_;try simp only[z04,z02])|(refine z0h ?_;simp (config := { maxSteps := 2000000 }) (disch:=first|omega|rfl) only[sV,sD,sB,Za,Zb,one,reduceCtorEq,ld32,st32,t5,t7,q7,q712,g5,isAlloc,isRead]))
      have n11:H10.next+6≤H12.next:=hx12.next;exact z35 (lo:=H10.next+6) (hi:=H12.next) hR (hx10.trans hx02) g5 (by simp only[sB,Za,reduceCtorEq];rfl) (by simp only[sG,Za,reduceCtorEq,t5]) (by simp only[sG,Za,reduceCtorEq]) (he12.to fun n hn hl=>⟨rfl,hn,hl⟩) (by omega) (Zg _)
     ·have k44:t2.kind=4:=k3.resolve_left k33;(repeat refine EvC.seq ?_);refine EvC.reg ?_;simp (config := { maxSteps := 2000000 }) only[sB,Za,reduceCtorEq,z0m k33];refine EvC.condF (by simp (config := { maxSteps := 2000000 }) only[sB,Za,reduceCtorEq]) ?_;(try refine EvC.skip ?_);(try simp only[z00,z01]);refine EvC.reg ?_;simp (config := { maxSteps := 2000000 }) only[sB,Za,reduceCtorEq,z0k k44];refine EvC.condT (by simp (config := { maxSteps := 2000000 }) only[sB,Za,reduceCtorEq]) ?_;(try refine EvC.skip ?_);(try simp only[z00,z01]);(repeat refine EvC.seq ?_);refine EvC.drw [([(1,0)],some 2),([(0,0),(3,1)],some 4),([(5,2)],none)] (by kernel_rfl) ?_;simp (config := { maxSteps := 2000000 }) only[sD,sB,Za,Zb,reduceCtorEq,ld25,cl34,isAlloc,isRead,t10,q10];have hb:=(HX.refl w10).bump 6;refine(z73 (s:=sCallable) (by decide) ((r2.mono hx10 hw).mono hb w10) hc2 hb.wf).mono ?_;rintro v H12 ⟨hx12,he12⟩;have hx02:=hb.trans hx12;have q712:=z0u (hx02.get w10 g7);have g5:=hx02.get w10 g5
      repeat' (first|(refine EvC.ret ?_;try simp only[z04,z02])|(refine z0h ?_;simp (config := { maxSteps := 2000000 }) (disch:=first|omega|rfl) only[sV,sD,sB,Za,Zb,one,reduceCtorEq,ld32,st32,t5,t7,q7,q712,g5,isAlloc,isRead]))
      have n11:H10.next+6≤H12.next:=hx12.next;exact z35 (lo:=H10.next+6) (hi:=H12.next) hR (hx10.trans hx02) g5 (by simp only[sB,Za,reduceCtorEq];rfl) (by simp only[sG,Za,reduceCtorEq,t5]) (by simp only[sG,Za,reduceCtorEq]) (he12.to fun n hn hl=>⟨rfl,hn,hl⟩) (by omega) (Zg _)
    ·have k33:t2.kind≠3:=fun e=>k3 (.inl e)
     have k44:t2.kind≠4:=fun e=>k3 (.inr e)
     repeat' (first|refine EvC.seq ?_|(refine EvC.skip ?_;try simp only[sA])|(refine EvC.reg ?_;simp (config := { maxSteps := 2000000 }) only[sB,Za,reduceCtorEq,z0m k1,z0m k33,z0m k44])|(refine EvC.condF ?_ ?_;simp (config := { maxSteps := 2000000 }) only[sB,Za,reduceCtorEq];refine z07 ?_))
     exact⟨_,rfl,(by simp only[sG,reduceCtorEq]),(by simp only[sG,Za,reduceCtorEq,t5]),(by simp only[sG,Za,reduceCtorEq,t7]),(by simp only[sG,Za,reduceCtorEq,t10]),(by simp only[sG,Za,reduceCtorEq,t11]),k1,k3⟩
   ·rintro st ⟨tm',rfl,t0,t5,t7,t10,t11,k1,k3⟩;simp only[z00];have hR3:readB m2 t2 r=match bodyF (SizeOf.sizeOf r+1) r with
      |none=>(Ze,zeroC,.ball (typeT sCallable r))
      |some b=>if 400 < cnt t2 0+cnt (toldB b) 0 then (Ze,zeroC,.ball (resT sClause)) else (m2,madeC t2 r,.ok):=by
     unfold readB;rw[if_neg k1,if_neg k3]
    (repeat refine EvC.seq ?_);refine EvC.reg ?_;simp (config := { maxSteps := 2000000 }) only[sB,Za,ld25,cl26,t11,q11];refine(z9v (rr.mono hx10 hw) w10).mono ?_;rintro v H11 ⟨hx11,out,ev,rfl,hob,hev⟩;obtain⟨ta,tc,sa,sc,rfl⟩:=hob.rep.eight;have w11:=hx11.wf;have n11:=hx11.next;try simp (config := { maxSteps := 2000000 }) (disch:=first|omega|rfl) only[sB,dAlloc,Za,Zb,one,zr30,st30]
    obtain⟨H12,e12,hx12,g12,hn12,w12⟩:=z0l w11 (.row zero8 30) (.row (eightT (readyS r).1.kind (readyS r).1.term ta tc sa (readyS r).1.sub.length sc) 30);simp only[e12];clear e12;have hx012:=hx11.trans hx12;have hxH12:=hx10.trans hx012;have g10:=hx012.get w10 g10;have g11:=hx012.get w10 g11;have g5:=hx012.get w10 g5;have g7:=hx012.get w10 g7;have q10:=row6 g10;have q11:=row6 g11;have q12:=row8 g12;have q7:=z0u g7;have d12:H.next+2≤H12.next:=by have:=hx012.next;omega
    have hev:RepES H12 (Rg H10.next H11.next) (readyS r).2 ev:=hev.to fun n hn hl=>⟨hx12.keep n hl,hn,by omega⟩
    cases hb:bodyF (SizeOf.sizeOf r+1) r with
    |none =>
     have hrs:readyS r=(zeroB,.ball (typeT sCallable r)):=by unfold readyS;rw[if_neg (fun h=>h hcr),hb]
     rw[hb] at hR3;rw[hrs] at hev;obtain⟨pb,ab,cb,rfl,gb,rb⟩:=hev.rep;have qb:=row6 gb;have hne1:((typeT sCallable r).name.toList == sResE.toList)=false:=z9j (show sTypeE≠sResE by decide);(repeat refine EvC.seq ?_);refine EvC.reg ?_;simp (config := { maxSteps := 2000000 }) only[sB,Za,z24,zg4 zmi];(repeat refine EvC.seq ?_);refine EvC.drw [([(0,0),(1,0),(2,0),(3,0),(4,0),(5,0),(6,0),(7,0),(8,0),(9,0),(10,0),(11,0),(12,0),(13,0)],some 14),([(15,0)],some 16),([],some 17),([(18,3),(19,3),(20,3),(21,3)],none)] (by kernel_rfl) ?_;simp (config := { maxSteps := 2000000 }) only[sD,sB,Za,Zb,reduceCtorEq,zpn,z16,ld9,isAlloc,isRead,qb,zi6,zew,z2e,hne1,ztc];refine EvC.condF (by simp (config := { maxSteps := 2000000 }) only[sB,Za]) ?_;(try refine EvC.skip ?_);(try simp only[z00,z01])
     repeat' (first|refine EvC.seq ?_|(refine EvC.ret ?_;try simp only[z04,z02])|(refine EvC.reg ?_;simp (config := { maxSteps := 2000000 }) only[sB,Za,zex])|(refine EvC.drw (id:=25) [([(0,0),(2,0)],some 3),([(1,0),(4,1)],none)] ?_ ?_;kernel_rfl;simp (config := { maxSteps := 2000000 }) (disch:=first|omega|rfl) only[sD,sB,Za,Zb,one,reduceCtorEq,ld32,st32,t5,t7,q7,g5,isAlloc,isRead,Bool.and_true])|(refine EvC.condT ?_ ?_;simp (config := { maxSteps := 2000000 }) only[sB,Za];refine z07 ?_))
     refine z35 (lo:=H10.next) (hi:=H11.next) hR3 ((hxH12.bump 22).bump 5) g5 (by simp only[sB,Za];rfl) (by simp only[sG,Za,t5]) (by simp only[sG,Za]) (hev.to fun n hn hl=>⟨rfl,hn,by show n < H12.next+22+5;omega⟩) (by omega) (by show _≤H12.next+22+5;omega)
    |some b =>
     rw[hb] at hR3;simp only at hR3;by_cases h4:4000 < cnt (toldB b) 0
     ·have hrs:readyS r=(zeroB,.ball (resT sNodes)):=by unfold readyS;rw[if_neg (fun h=>h hcr),hb];simp only;rw[if_pos h4]
      have hR4:readB m2 t2 r=(Ze,zeroC,.ball (resT sClause)):=by rw[hR3,if_pos (by omega)]
      rw[hrs] at hev;obtain⟨pb,ab,cb,rfl,gb,rb⟩:=hev.rep;have qb:=row6 gb;have hne1:((resT sNodes).name.toList == sResE.toList)=true:=z23 rfl;(repeat refine EvC.seq ?_);refine EvC.reg ?_;simp (config := { maxSteps := 2000000 }) only[sB,Za,z24,zg4 zmi];(repeat refine EvC.seq ?_);refine EvC.drw [([(0,0),(1,0),(2,0),(3,0),(4,0),(5,0),(6,0),(7,0),(8,0),(9,0),(10,0),(11,0),(12,0),(13,0)],some 14),([(15,0)],some 16),([],some 17),([(18,3),(19,3),(20,3),(21,3)],none)] (by kernel_rfl) ?_;simp (config := { maxSteps := 2000000 }) only[sD,sB,Za,Zb,reduceCtorEq,zpn,z16,ld9,isAlloc,isRead,qb,zi6,zew,z2e,hne1];refine EvC.condT (by simp (config := { maxSteps := 2000000 }) only[sB,Za]) ?_;(try refine EvC.skip ?_);(try simp only[z00,z01]);(repeat refine EvC.seq ?_);refine EvC.drw [([],some 1),([(0,0),(2,1)],some 3),([(4,2)],none)] (by kernel_rfl) ?_;simp (config := { maxSteps := 2000000 }) only[sD,sA,Zb,cl37];have hb2:HX H12 ⟨H12.next+22+5,H12.t⟩:=((HX.refl w12).bump 22).bump 5;refine(zcm (s:=sClause) (by decide) hb2.wf).mono ?_;rintro v H13 ⟨hx13,he13⟩;have hx23:=hb2.trans hx13;have q713:=z0u (hx23.get w12 g7);have g5:=hx23.get w12 g5
      repeat' (first|(refine EvC.ret ?_;try simp only[z04,z02])|(refine z0h ?_;simp (config := { maxSteps := 2000000 }) (disch:=first|omega|rfl) only[sV,sD,sB,Za,Zb,one,reduceCtorEq,ld32,st32,t5,t7,q7,q713,g5,isAlloc,isRead]))
      have n13:H12.next+22+5≤H13.next:=hx13.next;exact z35 (lo:=H12.next+22+5) (hi:=H13.next) hR4 (hxH12.trans hx23) g5 (by simp only[sB,Za];rfl) (by simp only[sG,Za,t5]) (by simp only[sG,Za]) (he13.to fun n hn hl=>⟨rfl,hn,hl⟩) (by omega) (Zg _)
     ·have hrs:readyS r=(b,.ok):=by unfold readyS;rw[if_neg (fun h=>h hcr),hb];simp only;rw[if_neg h4]
      rw[hrs] at hev;obtain rfl:ev=.nilIface:=hev.rep;(repeat refine EvC.seq ?_);refine EvC.reg ?_;simp (config := { maxSteps := 2000000 }) only[sB,Za,z24,zm5 zmi];(repeat refine EvC.seq ?_);refine EvC.drw [([(0,0),(1,0),(2,0),(3,0),(4,0),(5,0),(6,0),(7,0),(8,0),(9,0),(10,0),(11,0),(12,0),(13,0)],some 14),([(15,0)],some 16),([],some 17),([(18,3),(19,3),(20,3),(21,3)],none)] (by kernel_rfl) ?_;simp (config := { maxSteps := 2000000 }) only[sD,sB,Za,Zb,reduceCtorEq,ld25,cl35,isAlloc,isRead,t10,q10,ztd];have hb2:HX H12 ⟨H12.next+22,H12.t⟩:=(HX.refl w12).bump 22;refine(z1h _ _ _ (r2.mono (hxH12.bump 22) hw) hb2.wf).mono ?_;rintro v H13 ⟨rfl,hx13⟩;have hx213:=hb2.trans hx13;have q1213:=row8 (hx213.get w12 g12)
      repeat' (first|(refine z0h ?_;simp (config := { maxSteps := 2000000 }) only[sV,sD,sB,Za,reduceCtorEq,ld30,cl36,q12,q1213,isAlloc,isRead]))
      have hfew:=(z54 (z0e.1 hcr).2 hb).up (m:=1000000) (by decide);have hrb:(readyS r).1=b:=by rw[hrs]
      have w13:=hx13.wf;have hk3:=hx12.trans hx213;have hob13:OB H13 30 25 (Rg H10.next H11.next) (readyS r).1 _:=hob.keep hk3;refine(zcl (Zf _) hob13.bi (by rw[hrb];exact hfew) (fun n hn=>by have:=hn.2;have:=hk3.next;omega) w13).mono ?_;rintro v H14 ⟨hx14,outT,rfl,hrT⟩;rw[hrb] at hrT
      repeat' (first|(refine z0h ?_;simp (config := { maxSteps := 2000000 }) only[sD,sB,Za,cl35]))
      refine(z1h _ _ _ hrT.rep hx14.wf).mono ?_;rintro v H15 ⟨rfl,hx15⟩
      repeat' (first|(refine z0h ?_;simp (config := { maxSteps := 2000000 }) only[sD,sB,Za,Zb,reduceCtorEq,isAlloc,isRead]))
      have hx25:=(hx213.trans hx14).trans hx15;have g10:=hx25.get w12 g10;have g11:=hx25.get w12 g11;have g5:=hx25.get w12 g5;have g7:=hx25.get w12 g7;have q10:=row6 g10;have q11:=row6 g11;have q7:=z0u g7;have w15:=hx25.wf;have n25:=hx25.next;have hxH15:=hxH12.trans hx25;have cp1:=z2i t2;have cp2:=z2i (toldB b);by_cases h400:400 < cnt t2 0+cnt (toldB b) 0
      ·have hR4:readB m2 t2 r=(Ze,zeroC,.ball (resT sClause)):=by rw[hR3,if_pos h400]
       have hd:decide ((cnt t2 0:Int)+(cnt (toldB b) 0:Int) > 400)=true:=decide_eq_true (by omega);refine EvC.condT (by simp (config := { maxSteps := 2000000 }) (disch:=first|omega|rfl) only[sB,Za,z0b,hd]) ?_;(try refine EvC.skip ?_);(try simp only[z00,z01]);(repeat refine EvC.seq ?_);refine EvC.drw [([],some 1),([(0,0),(2,1)],some 3),([(4,2)],none)] (by kernel_rfl) ?_;simp (config := { maxSteps := 2000000 }) only[sD,sA,Zb,cl37];have hb2:HX H15 ⟨H15.next+5,H15.t⟩:=(HX.refl w15).bump 5;refine(zcm (s:=sClause) (by decide) hb2.wf).mono ?_;rintro v H16 ⟨hx16,he16⟩;have hx23:=hb2.trans hx16;have q716:=z0u (hx23.get w15 g7);have g5:=hx23.get w15 g5
       repeat' (first|(refine EvC.ret ?_;try simp only[z04,z02])|(refine z0h ?_;simp (config := { maxSteps := 2000000 }) (disch:=first|omega|rfl) only[sV,sD,sB,Za,Zb,one,reduceCtorEq,ld32,st32,t5,t7,q7,q716,g5,isAlloc,isRead]))
       have n16:H15.next+5≤H16.next:=hx16.next;exact z35 (lo:=H15.next+5) (hi:=H16.next) hR4 (hxH15.trans hx23) g5 (by simp only[sB,Za];rfl) (by simp only[sG,Za,t5]) (by simp only[sG,Za]) (he16.to fun n hn hl=>⟨rfl,hn,hl⟩) (by omega) (Zg _)
      have hR4:readB m2 t2 r=(m2,madeC t2 r,.ok):=by rw[hR3,if_neg h400]
      have hd:decide ((cnt t2 0:Int)+(cnt (toldB b) 0:Int) > 400)=false:=decide_eq_false (by omega);refine EvC.condF (by simp (config := { maxSteps := 2000000 }) (disch:=first|omega|rfl) only[sB,Za,z0b,hd]) ?_;(try refine EvC.skip ?_);(try simp only[z00,z01]);(repeat refine EvC.seq ?_);refine EvC.reg ?_;simp (config := { maxSteps := 2000000 }) only[sB,Za,zbb];refine EvC.condF (by simp (config := { maxSteps := 2000000 }) only[sB,Za]) ?_;(try refine EvC.skip ?_);(try simp only[z00,z01]);(repeat refine EvC.seq ?_);refine EvC.reg ?_;simp (config := { maxSteps := 2000000 }) (disch:=first|omega|rfl) only[sB,Za,Zb,Value.cells,one,Zk,layC,ld25,z6r,cl38,t10,t11,q10,q11];obtain⟨H16,e16,k16,g16,hn16,w16⟩:=new1 w15 (.row (six t2 a2 c2++six r ar cr) 25);have e16':=e16;simp only[six,ZK,List.nil_append] at e16';simp only[e16'];clear e16 e16';have hxH16:=hxH15.trans k16;have hch2:chkL [t2,r]=0:=by simp [chkL,hc2,hcr]
      have ho2:(occL [t2,r]).length≤8000:=by
       have:=zci hc2;have:=zci hcr;simp only[occL,Zw,List.length_nil];omega
      refine(zod (RepL.two (r2.mono hxH16 hw) (rr.mono hxH16 hw) g16) (Zo ho2 (by simp [most])) (by simp [most]) w16).mono ?_;rintro v H17 ⟨ap,kp,rfl,hfl,hx17⟩;rw[if_pos hch2] at hfl ⊢;have hff:∀u∈[t2,r],Fine u:=fun u hu=>by
       rcases List.mem_cons.1 hu with rfl|hu
       ·exact(z0e.1 hc2).2
       ·rw[List.mem_singleton.1 hu];exact(z0e.1 hcr).2
      have hpo:(occL (plainL [t2,r])).length≤8000:=by rw[z3b,zcp hff,Zq];exact ho2
      have hpc:chkL (plainL [t2,r])=0:=by
       have hp:=fun n=>(z3i (uniq (occL [t2,r])) n).1
       rw[z3b];simp [chkL,z69 hp hc2,z69 hp hcr]
      have hmc:madeC t2 r=⟨(plainL [t2,r]).getD 0 zeroT,(readyS ((plainL [t2,r]).getD 1 zeroT)).1,(uniq (occL (plainL [t2,r]))).length⟩:=rfl;obtain⟨u0,u1,hpl⟩:∃u0 u1,plainL [t2,r]=[u0,u1]:=⟨_,_,rfl⟩
      have hu1:checkS u1=0:=z6w hpc u1 (by rw[hpl];simp);rw[hpl] at hfl hpo hpc hmc ⊢;obtain⟨cellsp,rlp⟩:=hfl.rep;have w17:=hx17.wf;have n17:=hx17.next;try simp (config := { maxSteps := 2000000 }) only[sB,Za,Zb]
      (repeat refine EvC.seq ?_);refine EvC.reg ?_;simp (config := { maxSteps := 2000000 }) only[sB,Za,cl39];refine(zcf rlp (Zo hpo (by simp [most])) w17).mono ?_;rintro v H18 ⟨u,rfl,hil,hx18⟩;rw[if_pos hpc] at hil;obtain⟨au,ku,rfl,-,-⟩:=hil.slice;obtain⟨bp,op,ax0,cx0,hap,ld0,rs0⟩:=hfl.elS (i:=0) w17 (by simp);obtain⟨bp',op',ax1,cx1,hap',ld1,rs1⟩:=hfl.elS (i:=1) w17 (by simp);subst hap;cases hap';simp only[Zu,Nat.add_zero,ZL,List.getElem_cons_zero,List.getElem_cons_succ] at ld0 ld1 rs0 rs1;have ld1':=hx18.load w17 ld1;have w18:=hx18.wf;have n18:=hx18.next;try simp (config := { maxSteps := 2000000 }) only[sB,Za]
      (repeat refine EvC.seq ?_);refine EvC.reg ?_;simp (config := { maxSteps := 2000000 }) (disch:=first|omega|rfl) only[sB,Za,Zv,ld25,cl26,ld1',iz23,ZL];refine(z9v (rs1.rep.mono hx18 w17) w18).mono ?_;rintro v H19 ⟨hx19,outB,evB,rfl,hoB,-⟩;obtain⟨bta,btc,bsa,bsc,rfl⟩:=hoB.rep.eight;have w19:=hx19.wf;have n19:=hx19.next;try simp (config := { maxSteps := 2000000 }) (disch:=first|omega|rfl) only[sB,dAlloc,Za,Zb,one,zr30,st30]
      obtain⟨H20,e20,hx20,g20,hn20,w20⟩:=z0l w19 (.row zero8 30) (.row (eightT (readyS u1).1.kind (readyS u1).1.term bta btc bsa (readyS u1).1.sub.length bsc) 30);simp only[e20];clear e20;have k20:=(hx18.trans hx19).trans hx20;have hx16':=hx17.trans k20;have ld0':=k20.load w17 ld0;have q20:=row8 g20;have g5:=hx16'.get w16 (k16.get w15 g5);have hxH20:=hxH16.trans hx16';have nU:(uniq (occL [u0,u1])).length≤8000:=Zo (z5h _) hpo;(repeat refine EvC.seq ?_);refine EvC.drw [([(0,0),(1,0),(2,0),(3,0),(4,0),(5,0),(6,0),(7,0),(8,0)],some 9),([(10,1)],none)] (by kernel_rfl) ?_;simp (config := { maxSteps := 2000000 }) (disch:=first|omega|rfl) only[sD,sB,Za,Zb,Value.cells,one,reduceCtorEq,Zk,layC,Zv,ld25,st32,ld30,ln77,bd32,isAlloc,isRead,t0,t5,ld0',q20,g5,iz23,Zu]
      repeat' (first|(refine EvC.ret ?_))
      have hxb:=hxH20.bump 11;have hz:=hxb.pt (i:=H.next+1) (by omega) (show Heap.get ⟨H20.next+11,H20.t⟩ (H.next+1)=_ from g5) (some (.row (fift u0 ax0 cx0 (readyS u1).1.kind (readyS u1).1.term bta btc bsa (readyS u1).1.sub.length bsc (uniq (occL [u0,u1])).length) 32));rw[hR4,hmc];refine z4y rfl (by simp only[sG,Za]) (by simp only[sB,Za,t5];rfl) (by simp only[sB,Zb,cutC,ld32];rfl) (by simp only[sG,Za]) ⟨hz,_,_,rfl,⟨_,_,_,_,_,_,rfl,?_,?_⟩,RepES.fine⟩
      ·refine rs0.to fun n hn hl=>?_
       have a1:=hn.1;have a2:=k20.next;exact⟨by rw[get_put,if_neg (by omega)];exact k20.keep n hl,⟨by omega,by rw[z06];show n < H20.next+11;omega⟩,by rw[z06];show n < H20.next+11;omega⟩
      ·refine hoB.to (fun n hn hl=>?_) fun n hn=>?_
       ·have a1:=hn.1;have a2:=hx20.next;exact⟨by rw[get_put,if_neg (by omega)];exact hx20.keep n hl,by rw[z06];show n < H20.next+11;omega⟩
       ·have a1:=hn.1;have a3:=hn.2;have a2:=hx20.next;exact⟨by omega,by rw[z06];show n < H20.next+11;omega⟩
theorem zmj {t:Tm}(hn:nodeS t=0) (h:∀u∈t.args,Fine u):Fine t:=by
 unfold Fine;rw[z4w,if_pos hn];have hl:∀l:List Tm,(∀u∈l,Fine u)→allL nodeS l=0:=by
  intro l
  induction l with
  |nil=>intro _;rfl
  |cons u l ih =>
   intro hu;rw[allL,if_pos (show allE nodeS u=0 from hu u (by simp))];exact ih fun v hv=>hu v (Zn _ hv)
 exact hl t.args h
theorem z3j {s:ByteArray}{x y:Tm}(hs:nodeS (cmpT s [zeroT,zeroT])=0) (hx:Fine x) (hy:Fine y):Fine (cmpT s [x,y]) :=
 zmj (by rw[show cmpT s [x,y]=.mk 5 s Ze 0 0 [x,y] from rfl,z9q (l:=[zeroT,zeroT]) (l':=[x,y]) rfl];exact hs) fun u hu=>by
  rcases List.mem_cons.1 hu with rfl|hu
  ·exact hx
  ·rw[List.mem_singleton.1 hu];exact hy
theorem zey {s:ByteArray}{x:Tm}(hs:nodeS (cmpT s [zeroT])=0) (hx:Fine x):Fine (cmpT s [x]) :=
 zmj (by rw[show cmpT s [x]=.mk 5 s Ze 0 0 [x] from rfl,z9q (l:=[zeroT]) (l':=[x]) rfl];exact hs) fun u hu=>by rw[List.mem_singleton.1 hu];exact hx
theorem zmk:nodeS (cmpT sCall [zeroT])=0:=by kernel_rfl
theorem zte:nodeS (cmpT sCol [zeroT,zeroT])=0:=by kernel_rfl
theorem ztf:nodeS (cmpT sCma [zeroT,zeroT])=0:=by kernel_rfl
theorem zq5:nodeS (cmpT sArr [zeroT,zeroT])=0:=by kernel_rfl
theorem zq6:nodeS (cmpT sSem [zeroT,zeroT])=0:=by kernel_rfl
theorem ztg:nodeS (cmpT sNck [zeroT,zeroT])=0:=by kernel_rfl
theorem zml:Fine (atmT sTrue):=(z0e.1 z5l).2
theorem zoj:Fine (atmT sExc):=(z0e.1 (show checkS (atmT sExc)=0 by kernel_rfl)).2
theorem isF2.fine {t x y:Tm}{s:ByteArray}(h:isF2 t s x y) (hf:Fine t):Fine x∧Fine y:=⟨hf.args _ (by rw[h.2.2];simp),hf.args _ (by rw[h.2.2];simp)⟩
theorem z9x {t:Tm}{b:Bdy}(hf:Fine t) (h:BdR t b):Fine (toldB b):=by
 induction h with
 |var h=>rw[z1l];exact zey zmk hf
 |tru h1 h2=>rw[zeu];exact zml
 |cut h1 h2=>rw[zev];exact zoj
 |mcall h h1 h2 h3=>rw[z1l];exact zey zmk hf
 |mod h h1 h2 h3 hb ih=>rw[zb7];exact z3j zte (h.fine hf).1 (ih (h.fine hf).2)
 |and h hb hd i1 i2=>rw[zb8];exact z3j ztf (i1 (h.fine hf).1) (i2 (h.fine hf).2)
 |arr h hb hd i1 i2=>rw[zba];exact z3j zq5 (i1 (h.fine hf).1) (i2 (h.fine hf).2)
 |ite h hg hb hd he i1 i2 i3=>rw[z7p];exact z3j zq6 (z3j zq5 (i1 (hg.fine (h.fine hf).1).1) (i2 (hg.fine (h.fine hf).1).2)) (i3 (h.fine hf).2)
 |or h hn hb hd i1 i2=>rw[zb9];exact z3j zq6 (i1 (h.fine hf).1) (i2 (h.fine hf).2)
 |call h=>rw[zb6];exact hf
theorem z5m {s:ByteArray}{x y:Tm}:occ (cmpT s [x,y])=occ x++occ y:=by rw[z2d,if_neg (by intro q;cases q)];show []++occL [x,y]=_;simp [occL]
theorem zi7 {s:ByteArray}{x:Tm}:occ (cmpT s [x])=occ x:=by rw[z2d,if_neg (by intro q;cases q)];show []++occL [x]=_;simp [occL]
theorem zbc {t x y:Tm}{s:ByteArray}(h:isF2 t s x y):occ t=occ x++occ y:=by rw[z2d,if_neg (by have:=h.1;omega),h.2.2];simp [occL]
theorem zi8 {t:Tm}(hf:Fine t) (k:t.kind=2):occ t=[]:=by rw[z2d,if_neg (by omega),(z1v (z22 hf.node).2.2.1).2.2.2.2 (by omega)];rfl
theorem zmm {s:ByteArray}:occ (atmT s)=[]:=by rw[z2d,if_neg (by intro q;cases q)];rfl
theorem zok {t:Tm}{b:Bdy}(hf:Fine t) (h:BdR t b):occ (toldB b)=occ t:=by
 induction h with
 |var h=>rw[z1l,zi7]
 |tru h1 h2=>rw[zeu,zmm,zi8 hf h1]
 |cut h1 h2=>rw[zev,zmm,zi8 hf h1]
 |mcall h h1 h2 h3=>rw[z1l,zi7]
 |mod h h1 h2 h3 hb ih=>rw[zb7,z5m,zbc h,ih (h.fine hf).2]
 |and h hb hd i1 i2=>rw[zb8,z5m,zbc h,i1 (h.fine hf).1,i2 (h.fine hf).2]
 |arr h hb hd i1 i2=>rw[zba,z5m,zbc h,i1 (h.fine hf).1,i2 (h.fine hf).2]
 |ite h hg hb hd he i1 i2 i3=>rw[z7p,z5m,z5m,zbc h,zbc hg,i1 (hg.fine (h.fine hf).1).1,i2 (hg.fine (h.fine hf).1).2,i3 (h.fine hf).2]
 |or h hn hb hd i1 i2=>rw[zb9,z5m,zbc h,i1 (h.fine hf).1,i2 (h.fine hf).2]
 |call h=>rw[zb6]
theorem zg7 {n:Int}{t:Tm}:∀{l:List Tm},t∈l→n∈occ t→n∈occL l
 |u :: l,h,hn=>by
  rw[occL];rcases List.mem_cons.1 h with rfl|h
  ·exact List.mem_append_left _ hn
  ·exact List.mem_append_right _ (zg7 h hn)
section
variable {f:Int→Int}
theorem z20 {t:Tm}:(ren f t).kind=t.kind:=by
 by_cases k:t.kind=1
 ·rw[z9w k,k];rfl
 ·rw[z4n k];rfl
theorem z9y {t x y:Tm}{s:ByteArray}(h:isF2 t s x y):isF2 (ren f t) s (ren f x) (ren f y):=by
 rw[z4n (by have:=h.1;omega),h.2.2];exact⟨h.1,h.2.1,rfl⟩
theorem z7r {t:Tm}{s:ByteArray}:isF (ren f t) s↔isF t s:=by
 by_cases k:t.kind=1
 ·rw[z9w k];exact⟨fun q=>(by cases q.1),fun q=>(by have:=q.1;omega)⟩
 ·rw[z4n k];exact⟨fun q=>⟨q.1,q.2.1,by have:=q.2.2;simpa [Tm.args] using this⟩,fun q=>⟨q.1,q.2.1,by have:=q.2.2;simpa [Tm.args] using this⟩⟩
theorem z56 {s:ByteArray}{l:List Tm}:ren f (cmpT s l)=cmpT s (l.map (ren f)):=by rw[z4n (by intro q;cases q)];rfl
theorem zmn {s:ByteArray}:ren f (atmT s)=atmT s:=by rw[z4n (by intro q;cases q)];rfl
theorem zcu {t:Tm}:isNum (ren f t)↔isNum t:=by unfold isNum;rw[z20]
theorem zrx {t:Tm}(h:Oth t):Oth (ren f t):=by
 have hn:(ren f t).name=t.name:=by rw[z4n h.var];rfl
 exact⟨fun q=>h.num (zcu.1 q),by rw[z20];exact h.var,by rw[z20,hn];exact h.tru,by rw[z20,hn];exact h.cut,fun q=>h.col (z7r.1 q),fun q=>h.cma (z7r.1 q),fun q=>h.arr (z7r.1 q),fun q=>h.sem (z7r.1 q)⟩
theorem zth {t:Tm}{b:Bdy}(hf:Fine t) (h:BdR t b):∃b',BdR (ren f t) b'∧toldB b'=ren f (toldB b):=by
 induction h with
 |@var t h=>exact⟨callB (ren f t),.var (by rw[z20];exact h),by rw[z1l,z1l,z56];rfl⟩
 |tru h1 h2=>exact⟨_,.tru (by rw[z20];exact h1) (by rw[z4n (by omega)];exact h2),by rw[zeu,zmn]⟩
 |cut h1 h2=>exact⟨_,.cut (by rw[z20];exact h1) (by rw[z4n (by omega)];exact h2),by rw[zev,zmn]⟩
 |@mcall t x y h h1 h2 h3=>exact⟨callB (ren f t),.mcall (z9y h) (by rw[z20];exact h1) (fun q=>h2 (zcu.1 q)) (by rw[z20,z20];exact h3),by rw[z1l,z1l,z56];rfl⟩
 |mod h h1 h2 h3 hb ih =>
  obtain⟨b',i1,i2⟩:=ih (h.fine hf).2;exact⟨_,.mod (z9y h) (by rw[z20];exact h1) (by rw[z20];exact h2) (fun q=>h3 (zcu.1 q)) i1,by rw[zb7,zb7,z56,i2];rfl⟩
 |and h hb hd i1 i2 =>
  obtain⟨b',j1,j2⟩:=i1 (h.fine hf).1;obtain⟨d',k1,k2⟩:=i2 (h.fine hf).2;exact⟨_,.and (z9y h) j1 k1,by rw[zb8,zb8,z56,j2,k2];rfl⟩
 |arr h hb hd i1 i2 =>
  obtain⟨b',j1,j2⟩:=i1 (h.fine hf).1;obtain⟨d',k1,k2⟩:=i2 (h.fine hf).2;exact⟨_,.arr (z9y h) j1 k1,by rw[zba,zba,z56,j2,k2];rfl⟩
 |ite h hg hb hd he i1 i2 i3 =>
  obtain⟨b',j1,j2⟩:=i1 (hg.fine (h.fine hf).1).1;obtain⟨d',k1,k2⟩:=i2 (hg.fine (h.fine hf).1).2;obtain⟨e',l1,l2⟩:=i3 (h.fine hf).2;exact⟨_,.ite (z9y h) (z9y hg) j1 k1 l1,by rw[z7p,z7p,z56,j2,k2,l2];simp only[ZC,List.map_nil,z56]⟩
 |or h hn hb hd i1 i2 =>
  obtain⟨b',j1,j2⟩:=i1 (h.fine hf).1;obtain⟨d',k1,k2⟩:=i2 (h.fine hf).2;exact⟨_,.or (z9y h) (fun q=>hn (z7r.1 q)) j1 k1,by rw[zb9,zb9,z56,j2,k2];rfl⟩
 |call h=>exact⟨_,.call (zrx h),by rw[zb6,zb6]⟩
theorem zq7:∀(m:Nat) {t:Tm},SizeOf.sizeOf t < m→Fine t→(∀n∈occ t,f n=n)→ren f t=t
 |0,t,h,_,_=>by omega
 |m+1,t,h,hf,ho=>by
  by_cases k:t.kind=1
  ·have hb:=z1v (z22 hf.node).2.2.1;rw[z9w k,ho t.var (by rw[z2d,if_pos k];simp)];obtain⟨k',s,u,b,v,l⟩:=t;have e1:=hb.1 (by omega) (by omega);have e2:=hb.2.1 (by omega);have e3:=hb.2.2.1 (by omega);have e5:=hb.2.2.2.2 (by omega);simp only[Tm.name,Tm.num,Tm.bits,Tm.args,Tm.kind] at e1 e2 e3 e5 k;subst e1 e2 e3 e5 k;rfl
  ·rw[z4n k];have hm:t.args.map (ren f)=t.args:=by
    have:∀l:List Tm,(∀u∈l,ren f u=u)→l.map (ren f)=l:=fun l hl=>by
     conv=>rhs;rw[←List.map_id l]
     exact List.map_congr_left hl
    refine this _ fun u hu=>zq7 m (by have:=z0d hu;omega) (hf.args u hu) fun n hn=>ho n ?_
    rw[z2d];exact List.mem_append_right _ (zg7 hu hn)
   rw[hm];obtain⟨k',s,u,b,v,l⟩:=t;rfl
end
theorem zez {n:Int}:∀(l acc:List Int),n∈acc∨n∈l→n∈l.foldl addU acc
 |[],acc,h=>by rcases h with h|h;exact h;simp at h
 |a :: l,acc,h=>by
  refine zez l (addU acc a) ?_;rcases h with h|h
  ·refine .inl ?_;unfold addU;split
   ·exact h
   ·exact List.mem_append_left _ h
  ·rcases List.mem_cons.1 h with rfl|h
   ·refine .inl ?_;unfold addU;split
    ·assumption
    ·simp
   ·exact .inr h
theorem z9z {n:Int}{l:List Int}(h:n∈l):n∈uniq l:=zez l [] (.inr h)
theorem zf0 {F:Int→Int}:∀(l acc:List Int),(∀a b,(a∈acc∨a∈l)→(b∈acc∨b∈l)→F a=F b→a=b)→(l.map F).foldl addU (acc.map F)=(l.foldl addU acc).map F
 |[],acc,_=>rfl
 |a :: l,acc,h=>by
  have e:addU (acc.map F) (F a)=(addU acc a).map F:=by
   unfold addU;by_cases k:a∈acc
   ·rw[if_pos (List.mem_map_of_mem k),if_pos k]
   ·rw[if_neg (fun q=>by
     obtain⟨b,hb,e⟩:=List.mem_map.1 q;exact k (h b a (.inl hb) (.inr (by simp)) e ▸ hb)),if_neg k,ZD];rfl
  rw[ZC,List.foldl_cons,List.foldl_cons,e];refine zf0 l _ fun x y hx hy=>h x y ?_ ?_
  ·rcases hx with hx|hx
   ·unfold addU at hx;split at hx
    ·exact .inl hx
    ·rcases List.mem_append.1 hx with hx|hx
     ·exact .inl hx
     ·exact .inr (by rw[List.mem_singleton.1 hx];simp)
   ·exact .inr (Zn _ hx)
  ·rcases hy with hx|hx
   ·unfold addU at hx;split at hx
    ·exact .inl hx
    ·rcases List.mem_append.1 hx with hx|hx
     ·exact .inl hx
     ·exact .inr (by rw[List.mem_singleton.1 hx];simp)
   ·exact .inr (Zn _ hx)
theorem zol {F:Int→Int}{l:List Int}(h:∀a∈l,∀b∈l,F a=F b→a=b):uniq (l.map F)=(uniq l).map F :=
 zf0 l [] fun a b ha hb=>h a (ha.resolve_left (by simp)) b (hb.resolve_left (by simp))
theorem zi9 {L:List Int}{n:Int}(h:n∈L):∃i,L.idxOf? n=some i∧L[i]?=some n:=by
 cases e:L.idxOf? n with
 |none =>
  rw[List.idxOf?,List.findIdx?_eq_none_iff] at e;have:=e n h;simp at this
 |some i =>
  rw[List.idxOf?,List.findIdx?_eq_some_iff_getElem] at e;obtain⟨hi,hn,-⟩:=e;exact⟨i,rfl,by rw[Zc hi];simp at hn;rw[hn]⟩
theorem zmo {L:List Int}{a b:Int}(ha:a∈L) (hb:b∈L) (h:plcZ L a=plcZ L b):a=b:=by
 obtain⟨i,e1,e2⟩:=zi9 ha;obtain⟨j,e3,e4⟩:=zi9 hb;unfold plcZ at h;rw[e1,e3] at h;have:i=j:=by simp only[Option.getD_some] at h;omega
 subst this;rw[e2] at e4;exact Option.some.inj e4
theorem zry {F:Int→Int}{L:List Int}{n:Int}(h:∀a∈L,F a=F n→a=n):plcZ (L.map F) (F n)=plcZ L n:=by
 have:(L.map F).idxOf? (F n)=L.idxOf? n:=by
  unfold List.idxOf?;rw[List.findIdx?_map]
  induction L with
  |nil=>rfl
  |cons a L ih =>
   rw[List.findIdx?_cons,List.findIdx?_cons,ih fun x hx=>h x (Zn _ hx)];have:((fun x=>x == F n) ∘ F) a=(a == n):=by
    show (F a == F n)=(a == n)
    by_cases e:a=n
    ·subst e;rw[beq_self_eq_true,beq_self_eq_true]
    ·have:F a≠F n:=fun q=>e (h a (by simp) q)
     rw[beq_eq_false_iff_ne.2 this,beq_eq_false_iff_ne.2 e]
   rw[this]
 unfold plcZ;rw[this]
theorem zrz {l:List Int}{n:Int}(h:n∈l):plcZ (uniq (l.map (plcZ (uniq l)))) (plcZ (uniq l) n)=plcZ (uniq l) n:=by
 have hi:∀a∈l,∀b∈l,plcZ (uniq l) a=plcZ (uniq l) b→a=b:=fun a ha b hb e=>zmo (z9z ha) (z9z hb) e
 rw[zol hi];exact zry fun a ha e=>zmo ha (z9z h) e
theorem zmp {l l2:List Tm}(hf:∀u∈l2,Fine u) (ho:occL l2=(occL l).map (plcZ (uniq (occL l)))):plainL l2=l2:=by
 rw[z3b];have:∀l3:List Tm,(∀u∈l3,u∈l2)→l3.map (ren (plcZ (uniq (occL l2))))=l3:=by
  intro l3
  induction l3 with
  |nil=>intro _;rfl
  |cons u l3 ih =>
   intro hu;rw[ZC,ih fun v hv=>hu v (Zn _ hv),zq7 _ (Zf _) (hf u (hu u (by simp))) fun n hn=>?_];have hm:n∈occL l2:=zg7 (hu u (by simp)) hn;rw[ho] at hm ⊢;obtain⟨k,hk,rfl⟩:=List.mem_map.1 hm;exact zrz hk
 exact this l2 fun u hu=>hu
theorem zf1:∀{k:Nat}{m m':ByteArray}{t t':Tm},SizeOf.sizeOf t < k→checkS t=0→stripF k m t=(m',t',.ok)→checkS t'=0∧¬isF t' sCol:=by
 intro k
 induction k with
 |zero=>intro m m' t t' h;omega
 |succ k ih =>
  intro m m' t t' hs hc h;rw[stripF] at h;by_cases k1:isF t sCol
  ·rw[if_pos k1] at h;obtain⟨x,y,hf⟩:=k1.two;rw[hf.a0,hf.a1] at h;by_cases k2:x.kind=1
   ·rw[if_pos k2] at h;cases h
   rw[if_neg k2] at h;by_cases k3:x.kind=2
   ·rw[if_pos k3] at h;exact ih (by have:=hf.lt;omega) (z0p hc (by rw[hf.2.2];simp)) h
   ·rw[if_neg k3] at h;cases h
  ·rw[if_neg k1] at h;cases h;exact⟨hc,k1⟩
theorem zf2 {m:ByteArray}{t:Tm}(h:¬isF t sCol):stripS m t=(m,t,.ok):=by unfold stripS;rw[stripF,if_neg h]
structure Good (b:Bdy):Prop where
 ex:∃u,Fine u∧BdR u b
 few:nd (toldB b)≤4000
theorem Good.fine {b:Bdy}(h:Good b):Fine (toldB b):=by obtain⟨u,h1,h2⟩:=h.ex;exact z9x h1 h2
theorem Good.check {b:Bdy}(h:Good b):checkS (toldB b)=0:=z0e.2 ⟨by have:=h.few;rw[z45 _ _ (Zf _) 0 (by omega)];omega,h.fine⟩
theorem Good.R {b:Bdy}(h:Good b):BdR (toldB b) b:=by obtain⟨u,h1,h2⟩:=h.ex;exact(ztb h2).1
theorem Good.size {b:Bdy}(h:Good b):szB b≤8000:=by obtain⟨u,h1,h2⟩:=h.ex;have:=(zrv h1 h2).2;have:=h.few;omega
theorem Good.F {b:Bdy}(h:Good b):bodyF (SizeOf.sizeOf (toldB b)+1) (toldB b)=some b:=zcq (Zf _) h.R
theorem Good.ready {b:Bdy}(h:Good b):readyS (toldB b)=(b,.ok):=by
 unfold readyS;rw[if_neg (fun q=>q h.check),h.F];simp only;rw[if_neg (by have:=h.few;rw[z45 _ _ (Zf _) 0 (by omega)];omega)]
theorem zom {t:Tm}{n:Nat}(h:cnt t 0≤n) (hn:n≤4000):nd t≤n:=by
 have:=zaz _ t (Zf _) 0 (by omega);omega
theorem zjo {t:Tm}(h:(readyS t).2=.ok):Good (readyS t).1:=by
 unfold readyS at h ⊢;by_cases k:checkS t=0;rotate_left
 ·rw[if_pos k] at h;cases h
 rw[if_neg (fun q=>q k)] at h ⊢;cases hb:bodyF (SizeOf.sizeOf t+1) t with
 |none=>rw[hb] at h;cases h
 |some b =>
  rw[hb] at h;simp only at h ⊢;by_cases k4:4000 < cnt (toldB b) 0
  ·rw[if_pos k4] at h;cases h
  rw[if_neg k4];exact⟨⟨t,(z0e.1 k).2,zg5 hb⟩,zom (show cnt (toldB b) 0≤4000 by omega) (Zg _)⟩
structure GoodC (c:Cls):Prop where
 good:Good c.body
 head:checkS c.head=0
 col:¬isF c.head sCol
 var:c.head.kind≠1
 num:¬isNum c.head
 few:nd c.head+nd (toldB c.body)≤400
 fix:plainL [c.head,toldB c.body]=[c.head,toldB c.body]
 vars:c.vars=(uniq (occL [c.head,toldB c.body])).length
theorem zjp {m m':ByteArray}{h r:Tm}{c:Cls}(hh:checkS h=0) (hr:checkS r=0) (hc:¬isF h sCol) (e:readB m h r=(m',c,.ok)):m'=m∧GoodC c:=by
 unfold readB at e;by_cases k1:h.kind=1
 ·rw[if_pos k1] at e;cases e
 rw[if_neg k1] at e;by_cases k2:isNum h
 ·rw[if_pos k2] at e;cases e
 rw[if_neg k2] at e;cases hb:bodyF (SizeOf.sizeOf r+1) r with
 |none=>rw[hb] at e;cases e
 |some b =>
  rw[hb] at e;simp only at e;by_cases k4:400 < cnt h 0+cnt (toldB b) 0
  ·rw[if_pos k4] at e;cases e
  rw[if_neg k4] at e;cases e;refine⟨rfl,?_⟩;obtain⟨f,ef⟩:∃f,plcZ (uniq (occL [h,r]))=f:=⟨_,rfl⟩
  have hf:∀n,0≤f n:=fun n=>by rw[←ef];exact(z3i _ n).1
  have fh:=(z0e.1 hh).2;have fr:=(z0e.1 hr).2;have hpl:plainL [h,r]=[ren f h,ren f r]:=by rw[z3b,ef];rfl
  have hR:=zg5 hb;obtain⟨b1,hR1,ht1⟩:=zth (f:=f) fr hR;have hr1:=z69 hf hr;have hh1:=z69 hf hh;have fr1:=(z0e.1 hr1).2;have fh1:=(z0e.1 hh1).2;have ftb:=z9x fr hR;have n1:nd h≤400:=zom (by omega) (by decide);have n2:nd (toldB b)≤400:=zom (by omega) (by decide);have c1:=z45 _ h (Zf _) 0 (by omega);have c2:=z45 _ (toldB b) (Zf _) 0 (by omega);have n3:nd (toldB b1)=nd (toldB b):=by rw[ht1,zet _ (Zf _) ftb]
  have n4:nd (ren f h)=nd h:=zet _ (Zf _) fh;have hg:Good b1:=⟨⟨_,fr1,hR1⟩,by omega⟩
  have hry:readyS (ren f r)=(b1,.ok):=by
   unfold readyS;rw[if_neg (fun q=>q hr1),zcq (Zf _) hR1];simp only;rw[if_neg (by rw[z45 _ _ (Zf _) 0 (by omega)];omega)]
  have ho1:occ (toldB b1)=(occ r).map f:=by rw[zok fr1 hR1,zco _ (Zf _) fr]
  have ho2:occL [ren f h,toldB b1]=(occL [h,r]).map f:=by
   simp only[occL,List.append_nil];rw[ho1,zco _ (Zf _) fh,ZD]
  have hm:madeC h r=⟨ren f h,b1,(uniq (occL [ren f h,ren f r])).length⟩:=by
   unfold madeC;rw[hpl];show Cls.mk (ren f h) (readyS (ren f r)).1 _=_;rw[hry]
  rw[hm];refine⟨hg,hh1,fun q=>hc (z7r.1 q),by show (ren f h).kind≠1;rw[z20];exact k1,fun q=>k2 (zcu.1 q),by show nd (ren f h)+nd (toldB b1)≤400;omega,?_,?_⟩
  ·exact zmp (l:=[h,r]) (fun u hu=>by
    rcases List.mem_cons.1 hu with rfl|hu
    ·exact fh1
    ·rw[List.mem_singleton.1 hu];exact hg.fine) (by rw[ef];exact ho2)
  ·show ((uniq (occL [ren f h,ren f r])).length:Int)=((uniq (occL [ren f h,toldB b1])).length:Int)
   rw[ho2,←zcp (l:=[h,r]) (fun u hu=>by
    rcases List.mem_cons.1 hu with rfl|hu
    ·exact fh
    ·rw[List.mem_singleton.1 hu];exact fr)]
   rfl
theorem isF.chk {t:Tm}{s:ByteArray}(h:isF t s) (hc:checkS t=0):checkS (t.at 0)=0∧checkS (t.at 1)=0:=by
 obtain⟨x,y,hf⟩:=h.two;rw[hf.a0,hf.a1];exact⟨z0p hc (by rw[hf.2.2];simp),z0p hc (by rw[hf.2.2];simp)⟩
theorem zbd {m m':ByteArray}{t:Tm}{c:Cls}(e:readS m t=(m',c,.ok)):GoodC c:=by
 unfold readS at e;by_cases k:checkS t=0;rotate_left
 ·rw[if_pos k] at e;cases e
 rw[if_neg (fun q=>q k)] at e;obtain⟨⟨m1,t1,e1⟩,hS⟩:∃R,stripS m t=R:=⟨_,rfl⟩
 rw[hS] at e;cases e1 with
 |num n=>cases e
 |ball u=>cases e
 |ok =>
  obtain⟨c1,-⟩:=zf1 (Zf _) k hS;simp only at e;have hhr:checkS (headOf t1)=0∧checkS (restOf t1)=0:=by
   unfold headOf restOf;by_cases kn:isF t1 sNck
   ·rw[if_pos kn,if_pos kn];exact kn.chk c1
   ·rw[if_neg kn,if_neg kn];exact⟨c1,z5l⟩
  unfold readH at e;obtain⟨⟨m2,t2,e2⟩,hS2⟩:∃R,stripS m1 (headOf t1)=R:=⟨_,rfl⟩
  rw[hS2] at e;cases e2 with
  |num n=>cases e
  |ball u=>cases e
  |ok =>
   obtain⟨c2,hn⟩:=zf1 (Zf _) hhr.1 hS2;exact(zjp c2 hhr.2 hn e).2
def wholeC (c:Cls):Tm:=cmpT sNck [c.head,toldB c.body]
theorem GoodC.check {c:Cls}(h:GoodC c):checkS (wholeC c)=0:=by
 refine z0e.2 ⟨?_,z3j ztg (z0e.1 h.head).2 h.good.fine⟩;have e:nd (wholeC c)=1+nd c.head+nd (toldB c.body):=z6a;have:=h.few;rw[z45 _ _ (Zf _) 0 (by omega)];omega
theorem GoodC.read {c:Cls}(h:GoodC c) (m:ByteArray):readS m (wholeC c)=(m,c,.ok):=by
 have hw:isF2 (wholeC c) sNck c.head (toldB c.body):=cmp2;have hf:=h.few;unfold readS;rw[if_neg (fun q=>q h.check),zf2 (hw.f.ne (by decide))];simp only;unfold headOf restOf readH;rw[if_pos hw.f,if_pos hw.f,hw.a0,hw.a1,zf2 h.col];simp only;unfold readB;rw[if_neg h.var,if_neg h.num,h.good.F];simp only;rw[z45 _ _ (Zf _) 0 (by omega),z45 _ _ (Zf _) 0 (by omega),if_neg (by omega)];have hm:madeC c.head (toldB c.body)=c:=by
  unfold madeC;rw[h.fix];show Cls.mk c.head (readyS (toldB c.body)).1 _=c;rw[h.good.ready];show Cls.mk c.head c.body _=c;rw[←h.vars]
 rw[hm]
theorem za0 (t:Tm):cnt t 0≤nd t:=by
 have h1:=z2i t;by_cases h:cnt t 0≤4000
 ·have:=zaz _ t (Zf _) 0 h;omega
 ·by_cases k:nd t≤4000
  ·have:=z45 _ t (Zf _) 0 (by omega);omega
  ·omega
theorem zf3 (u:Bdy):szB u=1+nd u.term+szB.szBL u.sub:=by obtain⟨k,t,l⟩:=u;rw[szB];rfl
noncomputable def szF:Bdy→Nat→Nat
 |.mk _ t l,n=>szFL l (n+(1+cnt t 0))
where szFL:List Bdy→Nat→Nat
 |[],n=>n
 |b :: l,n=>if 20000 < n then n else szFL l (szF b n)
theorem zia (u:Bdy) (n:Nat):szF u n=szF.szFL u.sub (n+(1+cnt u.term 0)):=by obtain⟨k,t,l⟩:=u;rw[szF];rfl
theorem zf4 {l:List Bdy}{i:Nat}(h:i < l.length) (n:Nat):szF.szFL (l.drop i) n=if 20000 < n then n else szF.szFL (l.drop (i+1)) (szF l[i] n):=by
 rw[ZB h,szF.szFL]
theorem zg8:∀(m:Nat) (u:Bdy) (n:Nat),SizeOf.sizeOf u < m→n≤20000→szF u n≤24002
 |0,_,_,h,_=>absurd h (Nat.not_lt_zero _)
 |m+1,u,n,hs,hn=>by
  rw[zia];have hc:=z2i u.term;have:∀l:List Bdy,(∀b∈l,SizeOf.sizeOf b < m)→∀k,k≤24002→szF.szFL l k≤24002:=by
   intro l
   induction l with
   |nil=>intro _ k hk;rw[szF.szFL];exact hk
   |cons b l ih =>
    intro hb k hk;rw[szF.szFL];split
    ·exact hk
    ·exact ih (fun x hx=>hb x (Zn _ hx)) _ (zg8 m b k (hb b (by simp)) (by omega))
  exact this u.sub (fun b hb=>by have:=u.size b hb;omega) _ (by omega)
theorem zq8:∀(m:Nat) (u:Bdy) (n:Nat),SizeOf.sizeOf u < m→szF u n≤n+szB u
 |0,_,_,h=>absurd h (Nat.not_lt_zero _)
 |m+1,u,n,hs=>by
  rw[zia,zf3];have hc:=za0 u.term;have:∀l:List Bdy,(∀b∈l,SizeOf.sizeOf b < m)→∀k,szF.szFL l k≤k+szB.szBL l:=by
   intro l
   induction l with
   |nil=>intro _ k;rw[szF.szFL,szB.szBL];omega
   |cons b l ih =>
    intro hb k;rw[szF.szFL,szB.szBL];split
    ·omega
    ·have h1:=ih (fun x hx=>hb x (Zn _ hx)) (szF b k);have h2:=zq8 m b k (hb b (by simp));omega
  have h1:=this u.sub (fun b hb=>by have:=u.size b hb;omega) (n+(1+cnt u.term 0));omega
theorem zib {l:List Bdy}{i:Nat}(h:¬i < l.length) (n:Nat):szF.szFL (l.drop i) n=n:=by
 rw[List.drop_eq_nil_of_le (by omega),szF.szFL]
set_option maxHeartbeats 8000000 in
theorem zmq {m:Nat}:∀{u:Bdy}{cs:List Value}{n:Nat}{H:Heap},SizeOf.sizeOf u < m→RepB H u cs→n≤20000→H.wf →
  EvF Tryz.prog okT 54 [.agg ⟨cs⟩,.int .i64 n] H fun v H'=>HX H H'∧v=.int .i64 (szF u n):=by
 induction m with
 |zero=>intro u cs n H h;omega
 |succ m ih =>
 intro u cs n H hsz r hn hw;obtain⟨ts,a,c,cells,rfl,hk,rt,rl⟩:=r.inv;obtain⟨ta,tc,cellst,rfl,-⟩:=rt.inv;have hz:=zia u n;have hcn:=z2i u.term;have hm:=rl.cap;have hl:=rl.len;have hmx:u.sub.length≤9223372036854775807:=Zo hl (Zo hm (by decide));show EvF Tryz.prog okT 54 [.agg ⟨eightT u.kind u.term ta tc a u.sub.length c⟩,.int .i64 n] H _;refine EvF.enter rfl Tryz.func54 (by decide) rfl ?_;(repeat refine EvC.seq ?_);refine EvC.reg ?_;simp (disch:=first|omega|rfl) only[sB,initTm,dBox,Value.cells,one,reduceCtorEq];obtain⟨H2,e2,hx2,gp,hnx,hw2⟩:=new1 hw (.row (eightT u.kind u.term ta tc a u.sub.length c) 30);simp only[e2];have q1:=row8 gp;clear e2;(repeat refine EvC.seq ?_);refine EvC.reg ?_;simp only[sB,Za,reduceCtorEq,z5r,ld25,cl35,q1];refine(z1h _ _ _ (rt.mono hx2 hw) hw2).mono ?_;rintro v H3 ⟨rfl,hx3⟩;have gp3:=hx3.get hw2 gp;have q1:=row8 gp3;have hx:=hx2.trans hx3
 repeat' (first|refine EvC.seq ?_|refine EvC.block ?_|(refine EvC.reg ?_;simp only[sB,Za,reduceCtorEq,z1k,ld28,ln28,q1])|(refine z0i ?_;simp (disch:=first|omega|rfl) only[sB,Za,reduceCtorEq,z0b]))
 refine EvC.loop (fun k st=>∃tm H' i x,st=⟨tm,[],H'⟩∧k=u.sub.length - i∧i≤u.sub.length∧x≤24002∧szF.szFL (u.sub.drop i) x=szF u n ∧
   tm.get 1=some (.int .i64 (x:Nat))∧tm.get 14=some (.slice a u.sub.length c)∧tm.get 15=some (.int .i64 u.sub.length)∧tm.get 16=some (.int .i64 (i:Nat))∧HX H H') ?_ u.sub.length _ ?_
 rotate_left
 ·exact⟨_,_,0,n+(1+cnt u.term 0),rfl,rfl,by omega,by omega,by rw[List.drop_zero,hz],(by simp only[sB,Za,reduceCtorEq];rfl),(by simp only[sG,Za,reduceCtorEq]),(by simp only[sG,Za,reduceCtorEq]),(by simp only[sB,Za,reduceCtorEq];rfl),hx⟩
 rintro k st ⟨tm,H',i,x,rfl,rfl,hi,hxc,hxs,t1,t14,t15,t16,hx'⟩;by_cases hlt:i < u.sub.length
 ·obtain⟨b,o,rfl,hld,hr1⟩:=rl.el hlt;obtain⟨ua,uc,va,vc,hc1⟩:=hr1.eight;rw[hc1] at hr1 hld;have hld1:=hx'.load hw hld;have w':=hx'.wf;rw[zf4 hlt] at hxs;(repeat refine EvC.seq ?_);refine EvC.reg ?_;simp only[sA,t15,t16,decl hlt];(repeat refine EvC.seq ?_);refine EvC.condT (by simp only[sB]) ?_;(try refine EvC.skip ?_);(try simp only[z00,z01]);(repeat refine EvC.seq ?_);refine EvC.block ?_;(repeat refine EvC.seq ?_);refine EvC.reg ?_;simp (disch:=first|omega|rfl) only[sB,dAlloc,Za,Zb,one,ia28,ld30,zr30,st30,t14,t16,hld1];obtain⟨H4,e4,hx4,g6,hn4,w4⟩:=z0l w' (.row zero8 30) (.row (eightT u.sub[i].kind u.sub[i].term ua uc va u.sub[i].sub.length vc) 30);simp only[e4];clear e4;have q6:=row8 g6;have hs:=u.size _ (Zx hlt);by_cases hb:20000 < x
  ·rw[if_pos hb] at hxs;have hd:decide ((x:Int) > 20000)=true:=decide_eq_true (by omega)
   repeat' (first|refine EvC.seq ?_|(refine EvC.exit ?_;try simp only[sB,reduceCtorEq])|(refine EvC.ret ?_)|(refine EvC.reg ?_;simp only[sB,Za,t1,hd])|(refine EvC.condT ?_ ?_;simp only[sB,Za];refine z07 ?_))
   exact z03 rfl (by simp only[sB,Za];rfl) ⟨hx'.trans hx4,by rw[hxs]⟩
  rw[if_neg hb] at hxs;have hd:decide ((x:Int) > 20000)=false:=decide_eq_false (by omega);(repeat refine EvC.seq ?_);refine EvC.reg ?_;simp only[sB,Za,t1,hd];refine EvC.condF (by simp only[sB,Za]) ?_;(try refine EvC.skip ?_);(try simp only[z00,z01]);refine EvC.reg ?_;simp only[sB,Za,ld30,cl54,t1,q6];refine(ih (u:=u.sub[i]) (n:=x) (by omega) ((hr1.mono hx' hw).mono hx4 w') (by omega) w4).mono ?_;rintro v H5 ⟨hx5,rfl⟩
  repeat' (first|(refine EvC.reg ?_;simp (disch:=first|omega|rfl) only[sB,Za,t16,z0b]))
  exact⟨u.sub.length - (i+1),by omega,_,_,i+1,szF u.sub[i] x,rfl,rfl,by omega,zg8 _ _ _ (Zf _) (by omega),hxs,(by simp only[sG,Za]),(by simp only[sG,Za,t14]),(by simp only[sG,Za,t15]),(by simp only[sB,Za];rfl),(hx'.trans hx4).trans hx5⟩
 ·rw[zib hlt] at hxs
  repeat' (first|refine EvC.seq ?_|(refine EvC.exit ?_;try simp only[sB])|(refine EvC.ret ?_)|(refine EvC.reg ?_;simp only[sB,Za,t1,t15,t16,decn hlt])|(refine EvC.condF ?_ ?_;simp only[sB];refine z07 ?_))
  exact z03 rfl (by simp only[sB,Za];rfl) ⟨hx',by rw[hxs]⟩
set_option maxHeartbeats 8000000 in
theorem zmr {m:Nat}:∀{u:Bdy}{cs:List Value}{n:Nat}{H:Heap},SizeOf.sizeOf u < m→RepB H u cs→n≤20000→H.wf →
  EvF Tryz.prog okT 57 [.agg ⟨cs⟩,.int .i64 n] H fun v H'=>HX H H'∧v=.int .i64 (szF u n):=by
 induction m with
 |zero=>intro u cs n H h;omega
 |succ m ih =>
 intro u cs n H hsz r hn hw;obtain⟨ts,a,c,cells,rfl,hk,rt,rl⟩:=r.inv;obtain⟨ta,tc,cellst,rfl,-⟩:=rt.inv;have hz:=zia u n;have hcn:=z2i u.term;have hm:=rl.cap;have hl:=rl.len;have hmx:u.sub.length≤9223372036854775807:=Zo hl (Zo hm (by decide));show EvF Tryz.prog okT 57 [.agg ⟨eightT u.kind u.term ta tc a u.sub.length c⟩,.int .i64 n] H _;refine EvF.enter rfl Tryz.func57 (by decide) rfl ?_;(repeat refine EvC.seq ?_);refine EvC.reg ?_;simp (disch:=first|omega|rfl) only[sB,initTm,dBox,Value.cells,one,reduceCtorEq];obtain⟨H2,e2,hx2,gp,hnx,hw2⟩:=new1 hw (.row (eightT u.kind u.term ta tc a u.sub.length c) 30);simp only[e2];have q1:=row8 gp;clear e2;(repeat refine EvC.seq ?_);refine EvC.reg ?_;simp only[sB,Za,reduceCtorEq,z5r,ld25,cl46,q1];refine(z1u _ _ _ (rt.mono hx2 hw) hw2).mono ?_;rintro v H3 ⟨rfl,hx3⟩;have gp3:=hx3.get hw2 gp;have q1:=row8 gp3;have hx:=hx2.trans hx3
 repeat' (first|refine EvC.seq ?_|refine EvC.block ?_|(refine EvC.reg ?_;simp only[sA])|(refine z0i ?_;simp (disch:=first|omega|rfl) only[sB,Za,reduceCtorEq,z0b]))
 refine EvC.loop (fun k st=>∃tm H' i x,st=⟨tm,[],H'⟩∧k=u.sub.length - i∧i≤u.sub.length∧x≤24002∧szF.szFL (u.sub.drop i) x=szF u n ∧
   tm.get 1=some (.int .i64 (x:Nat))∧tm.get 2=some (.pointer (some ⟨H.next,0,none⟩))∧tm.get 5=some (.int .i64 (i:Nat))∧H'.get H.next=some (.row (eightT u.kind u.term ta tc a u.sub.length c) 30)∧HX H H') ?_ u.sub.length _ ?_
 rotate_left
 ·exact⟨_,_,0,n+1+cnt u.term 0,rfl,rfl,by omega,by omega,by rw[List.drop_zero,hz,Nat.add_assoc],(by simp only[sB,Za,reduceCtorEq];rfl),(by simp only[sG,Za,reduceCtorEq]),(by simp only[sB,Za,reduceCtorEq];rfl),gp3,hx⟩
 rintro k st ⟨tm,H',i,x,rfl,rfl,hi,hxc,hxs,t1,t2,t5,gp',hx'⟩;have q1:=row8 gp';by_cases hlt:i < u.sub.length
 ·obtain⟨b,o,rfl,hld,hr1⟩:=rl.el hlt;obtain⟨ua,uc,va,vc,hc1⟩:=hr1.eight;rw[hc1] at hr1 hld;have hld1:=hx'.load hw hld;have w':=hx'.wf;rw[zf4 hlt] at hxs;have hs:=u.size _ (Zx hlt);by_cases hb:20000 < x
  ·rw[if_pos hb] at hxs;have hd:decide ((x:Int)≤20000)=false:=decide_eq_false (by omega)
   repeat' (first|refine EvC.seq ?_|(refine EvC.exit ?_;try simp only[sB])|(refine EvC.ret ?_)|(refine EvC.reg ?_;simp only[sB,Za,z1k,ld28,ln28,t1,t2,t5,q1,decl hlt,hd])|(refine EvC.condF ?_ ?_;simp only[sB,Za];refine z07 ?_))
   exact z03 rfl (by simp only[sB,Za];rfl) ⟨hx',by rw[hxs]⟩
  rw[if_neg hb] at hxs;have hd:decide ((x:Int)≤20000)=true:=decide_eq_true (by omega)
  repeat' (first|refine EvC.seq ?_|refine EvC.block ?_|(refine EvC.skip ?_;try simp only[z00])|(refine EvC.reg ?_;simp (disch:=first|omega|rfl) only[sB,Za,z1k,ld28,ln28,ia28,ld30,cl57,t1,t2,t5,q1,decl hlt,hd,hld1])|(refine EvC.condT ?_ ?_;simp only[sB,Za];refine z07 ?_))
  have hbb:=hx';refine(ih (u:=u.sub[i]) (n:=x) (by omega) (hr1.mono hbb hw) (by omega) hbb.wf).mono ?_;rintro v H5 ⟨hx5,rfl⟩
  repeat' (first|(refine EvC.reg ?_;simp (disch:=first|omega|rfl) only[sB,Za,t5,z0b]))
  exact⟨u.sub.length - (i+1),by omega,_,_,i+1,szF u.sub[i] x,rfl,rfl,by omega,zg8 _ _ _ (Zf _) (by omega),hxs,(by simp only[sG,Za]),(by simp only[sG,Za,t2]),(by simp only[sB,Za];rfl),hx5.get hbb.wf gp',hbb.trans hx5⟩
 ·rw[zib hlt] at hxs
  repeat' (first|refine EvC.seq ?_|(refine EvC.exit ?_;try simp only[sB])|(refine EvC.ret ?_)|(refine EvC.reg ?_;simp only[sB,Za,z1k,ld28,ln28,t1,t2,t5,q1,decn hlt,Zd])|(refine EvC.condF ?_ ?_;simp only[sB,Za];refine z07 ?_))
  exact z03 rfl (by simp only[sB,Za];rfl) ⟨hx',by rw[hxs]⟩
end Go.Proofs.hq
end
