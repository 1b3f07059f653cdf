import Derived.Test.YtopekindmbjeoaaGreatDoorM3
import Derived.Test.YtopekindmbjeoaaGreatDoorM5
import Derived.Test.YtopekindmbjeoaaGreatDoorM4
/- Lemmas on the program's own code, towards the laws of this folder, part 6. Conditions: as each lemma says. -/
section
namespace Go.Hb
open Go Go.RowKit
theorem z6o {P:Program}{ok:Ok}{fn:Func}{tm:Tr Value}{H:Heap}{K:Value→Heap→Prop}{a b:Tmp}{t t':TypeId}{ad bd:Addr}{v u:Value}(h:fn.results.toList=[.cell a t,.cell b t']) (ha:tm.get a=some (.pointer (some ad))) (hv:dLoad P t (.pointer (some ad)) H=some (.val v H))
  (hb:tm.get b=some (.pointer (some bd))) (hu:dLoad P t' (.pointer (some bd)) H=some (.val u H)) (hk:K (.tuple ⟨[v,u]⟩) H):EvM P ok fn tm [] none H K:=by
 refine EvM.now (v:=.tuple ⟨[v,u]⟩) ?_ hk
 have key:∀{t:TypeId}{ad:Addr}{v:Value},dLoad P t (.pointer (some ad)) H=some (.val v H)→dload P t ad H=some v:=fun {t ad v} hd=>by
  unfold dLoad at hd
  simp only at hd
  cases h1:dload P t ad H with
  |none=>rw[h1] at hd;simp at hd
  |some w=>rw[h1] at hd;simp at hd;rw[hd]
 simp [dres,h,dresL,dres1,ha,hb,key hv,key hu]
end Go.Hb
namespace Go.Proofs.hq
open Go Go.RowKit Go.Hb
variable {ok:Ok}
set_option maxRecDepth 10000
attribute [local irreducible] LX LG EL STG SOP SGO SGD SAL SRD SEF SEG SLK SCK ES
theorem zbb {n:Nat}:Few n zeroT:=.mk (Nat.zero_le _) fun u hu=>by cases hu
theorem zgv {t:Tm}(h:Few 64 t):Few 64 (cmpT sCall [t]):=.mk (by show 1≤64;decide) fun u hu=>by
 have:u=t:=by simpa [cmpT,Tm.args] using hu
 rw[this];exact h
theorem z7x {t:Tm}(h:Fine t):Few 64 t:=Fine.few _ (Nat.lt_succ_self _) h
theorem FewB.leaf {n:Nat}{k:Int}{t:Tm}(h:Few n t):FewB n (.mk k t []):=.mk (Nat.zero_le _) h fun u hu=>by cases hu
theorem zdj {f:Tm→Option Bdy}{n:Nat}:∀{l:List Tm}{bs:List Bdy},(∀t∈l,∀b,f t=some b→FewB n b)→subBL f l=some bs→∀b∈bs,FewB n b
 |[],bs,_,h=>by cases h;intro b hb;cases hb
 |u :: l,bs,hf,h=>by
  rw[subBL] at h
  split at h
  ·rename_i c cs h1 h2
   cases h
   intro b hb
   rcases List.mem_cons.1 hb with rfl|hb
   ·exact hf u (by simp) _ h1
   ·exact zdj (fun t ht=>hf t (List.mem_cons_of_mem _ ht)) h2 b hb
  ·cases h
theorem z6p {f:Tm→Option Bdy}{n:Nat}{k:Int}{l:List Tm}{b:Bdy}(hl:l.length≤n) (hf:∀t∈l,∀b,f t=some b→FewB n b) (h:subBF f k l=some b):FewB n b:=by
 unfold subBF at h
 cases hs:subBL f l with
 |none=>rw[hs] at h;cases h
 |some bs =>
  rw[hs] at h
  cases h
  exact .mk (by show bs.length≤n;rw[zgt hs];exact hl) zbb (zdj hf hs)
theorem zaa {t:Tm}{i:Nat}(h:i < t.args.length):t.at i∈t.args:=by
 unfold Tm.at
 rw[List.getD_eq_getElem?_getD,List.getElem?_eq_getElem h]
 exact List.getElem_mem h
theorem z6q:∀{m:Nat}{t:Tm}{b:Bdy},Fine t→bodyF m t=some b→FewB 64 b
 |0,t,b,_,h=>by cases h
 |m+1,t,b,hf,h=>by
  have ih:∀u,Fine u→∀b,bodyF m u=some b→FewB 64 b:=fun u hu b hb=>z6q hu hb
  have hl:=z45 hf
  have hargs:∀u∈t.args,∀b,bodyF m u=some b→FewB 64 b:=fun u hu=>ih u (hf.args u hu)
  rw[bodyF] at h
  split at h
  ·cases h
  split at h
  ·cases h;exact .leaf (zgv (z7x hf))
  split at h
  ·cases h;exact .leaf zbb
  split at h
  ·cases h;exact .leaf zbb
  split at h
  ·rename_i hF
   unfold withinF at h
   split at h
   ·cases h
   split at h
   ·cases h;exact .leaf (zgv (z7x hf))
   cases hb:bodyF m (t.at 1) with
   |none=>rw[hb] at h;cases h
   |some c =>
    rw[hb] at h
    cases h
    refine .mk (by show 1≤64;decide) (z7x (hf.args _ (zaa (by rw[hF.2.2];decide)))) fun u hu=>?_
    have:u=c:=by simpa [Bdy.sub] using hu
    subst this
    exact hargs _ (zaa (by rw[hF.2.2];decide)) _ hb
  split at h
  ·exact z6p hl hargs h
  split at h
  ·exact z6p hl hargs h
  split at h
  ·rename_i hF
   have hx:=hf.args _ (zaa (i:=0) (by rw[hF.1.2.2];decide))
   refine z6p (by show 3≤64;decide) (fun u hu=>?_) h
   have hu':u∈(t.at 0).args∨u∈t.args:=by
    simp only[List.mem_cons,List.not_mem_nil,or_false] at hu
    rcases hu with rfl|rfl|rfl
    ·exact .inl (zaa (by rw[hF.2.2.2];decide))
    ·exact .inl (zaa (by rw[hF.2.2.2];decide))
    ·exact .inr (zaa (by rw[hF.1.2.2];decide))
   rcases hu' with hu|hu
   ·exact ih u (hx.args u hu)
   ·exact hargs u hu
  split at h
  ·exact z6p hl hargs h
  ·cases h;exact .leaf (z7x hf)
theorem FewB.up {n m:Nat}{b:Bdy}(f:FewB n b) (h:n≤m):FewB m b:=by
 induction f with
 |mk h1 h2 _ ih=>exact .mk (Nat.le_trans h1 h) (h2.up h) ih
def ReadyEnd (H:Heap) (t:Tm) (v:Value) (H':Heap):Prop:=HX H H'∧∃out ev,v=.tuple ⟨[.agg ⟨out⟩,ev]⟩∧OB H' 30 25 (Rg H.next H'.next) (readyS t).1 out∧RepES H' (Rg H.next H'.next) (readyS t).2 ev
set_option maxHeartbeats 16000000 in
theorem zdk {t:Tm}{cs:List Value}{H:Heap}(r0:RepT H t cs) (hw:H.wf):EvF Tryz.prog okT 26 [.agg ⟨cs⟩] H (ReadyEnd H t):=by
 obtain⟨a,c,cells,rfl,-⟩:=r0.six
 refine EvF.enterM rfl Tryz.func26 (by decide) rfl ?_
 (repeat refine EvC.seq ?_);refine EvC.reg ?_;simp only[sB,initTm,dBox,dAlloc,Value.cells,one,zr30,zr34]
 obtain⟨H2,e2,hx2,gt,gb,ge,hn2,hw2⟩:=zmu hw (.row (six t a c) 25) (.row zero8 30) (.row [.nilIface] 34)
 simp only[e2]
 clear e2
 have ge:H2.get (H.next+1+1)=some (.row [.nilIface] 34):=ge
 have qt:=row6 gt
 have hlt:=hw2 _ _ ge
 (repeat refine EvC.seq ?_);refine EvC.reg ?_;simp only[sB,Nat.reduceEqDiff,reduceCtorEq,ld25,cl29,qt]
 refine(z2k t _ _ (r0.mono hx2 hw) hw2).mono ?_
 rintro v H3 ⟨rfl,hx3⟩
 have gt3:=hx3.get hw2 gt
 have gb3:=hx3.get hw2 gb
 have ge3:=hx3.get hw2 ge
 have hx:=hx2.trans hx3
 have n3:=hx3.next
 have hww:=hx.wf
 have qb3:=row8 gb3
 have qt3:=row6 gt3
 have ne1:(H.next+2=H.next+1)=False:=by simp
 by_cases h0:checkS t=0
 rotate_left
 ·repeat' (first|refine EvC.seq ?_|(refine EvC.ret ?_;try simp only[z05,z03])|(refine EvC.reg ?_;simp only[sB,Nat.reduceEqDiff,Nat.reduceAdd,one,reduceCtorEq,ld30,st30,st34,z1w h0,gb3,ge3,qb3,z1b,z93 zkz,ne1])|(refine EvC.condT ?_ ?_;simp only[sB,Nat.reduceEqDiff,reduceCtorEq];refine z07 ?_))
  have hrs:readyS t=(zeroB,.num (checkS t)):=by unfold readyS;rw[if_pos h0]
  refine z6o rfl (by simp only[sB,Nat.reduceEqDiff,reduceCtorEq];rfl) (by simp only[sB,Nat.reduceAdd,cutC,ld30,neu];rfl) (by simp only[sB,Nat.reduceEqDiff,reduceCtorEq];rfl) (by simp only[sB,Nat.reduceEqDiff,cutC,ld34];rfl) ⟨(hx.pt (by omega) gb3 _).pt (i:=H.next+1+1) (by omega) (by rw[get_put,if_neg (by omega)];exact ge3) _,_,_,rfl,?_,?_⟩
  ·rw[hrs];exact OB.nil (by decide)
  ·rw[hrs];exact RepES.num
 (repeat refine EvC.seq ?_);refine EvC.reg ?_;simp only[sB,Nat.reduceEqDiff,reduceCtorEq,z1h h0]
 refine EvC.condF (by simp only[sB,Nat.reduceEqDiff,reduceCtorEq]) ?_;(try refine EvC.skip ?_);(try simp only[z00,z01])
 (repeat refine EvC.seq ?_);refine EvC.reg ?_;simp only[sB,Nat.reduceEqDiff,reduceCtorEq,List.map_toArray,zi9,zkw,zrl]
 have hlt3:=hww _ _ ge3
 cases ho:bodyF (SizeOf.sizeOf t+1) t with
 |none =>
  have hrs:readyS t=(zeroB,.ball (typeT sCallable t)):=by unfold readyS;rw[if_neg (fun h=>h h0),ho]
  (repeat refine EvC.seq ?_);refine EvC.regP 1 _ rfl rfl ?_;simp only[sB,Nat.reduceEqDiff,reduceCtorEq,ld25,cl62,z73,qt3]
  refine EvG.toP (zb9 _ (Nat.lt_succ_self _) (r0.mono hx hw) h0 hww) ?_
  rintro e H5 ⟨hx5,he⟩
  rw[ho] at he
  refine⟨_,he,?_⟩
  have hxf:=hx.trans hx5
  have n5:=hx5.next
  have gb5:=hx5.get hww gb3
  have ge5:=hx5.get hww ge3
  refine zl4 (H:=H5) (cs8:=zero8) rfl (r0.mono hxf hw) h0 (hx5.get hww gt3) gb5 ge5 (by omega) (fun H6 ev hx6 he6=>?_) hxf.wf
  have gb6:=hx6.get hxf.wf gb5
  have ge6:=hx6.get hxf.wf ge5
  have n6:=hx6.next
  have hx16:=hxf.trans hx6
  refine z6o rfl (by simp only[sB,Nat.reduceEqDiff,reduceCtorEq];rfl) (by simp only[sB,Nat.reduceAdd,cutC,ld30,neu];rfl) (by simp only[sB,Nat.reduceEqDiff,reduceCtorEq];rfl) (by simp only[sB,Nat.reduceEqDiff,cutC,ld34];rfl) ⟨(hx16.pt (by omega) gb6 _).pt (i:=H.next+1+1) (by omega) (by rw[get_put,if_neg (by omega)];exact ge6) _,_,_,rfl,?_,?_⟩
  ·rw[hrs];exact OB.nil (by decide)
  ·rw[hrs]
   refine he6.to fun n hn hl=>?_
   have:=hn.1
   exact⟨by rw[get_put,if_neg (by omega),get_put,if_neg (by omega)],⟨by omega,by rw[z06,z06];exact hl⟩,by rw[z06,z06];exact hl⟩
 |some bd =>
  (repeat refine EvC.seq ?_);refine EvC.reg ?_;simp only[sB,Nat.reduceEqDiff,reduceCtorEq,ld25,cl62,qt3]
  refine EvG.toF (zb9 _ (Nat.lt_succ_self _) (r0.mono hx hw) h0 hww) ?_
  rintro e H5 ⟨hx5,he⟩
  rw[ho] at he
  obtain⟨out,rfl,hob⟩:=he
  refine⟨_,rfl,?_⟩
  obtain⟨ta,tc,sa,sc,rfl⟩:=hob.rep.eight
  have hxf:=hx.trans hx5
  have n5:=hx5.next
  have gb5:=hx5.get hww gb3
  have ge5:=hx5.get hww ge3
  try simp only[sB,Nat.reduceAdd,one,st30,gb5]
  obtain⟨H6,e6⟩:∃H6,H5.put (H.next+1) (some (.row (eightT bd.kind bd.term ta tc sa bd.sub.length sc) 30))=H6:=⟨_,rfl⟩
  simp only[e6]
  have hx6:HX H H6:=by rw[←e6];exact hxf.pt (by omega) gb5 _
  have n6:H6.next=H5.next:=by rw[←e6];rfl
  have gb6:H6.get (H.next+1)=some (.row (eightT bd.kind bd.term ta tc sa bd.sub.length sc) 30):=by rw[←e6,get_put,if_pos rfl]
  have ge6:H6.get (H.next+1+1)=some (.row [.nilIface] 34):=by rw[←e6,get_put,if_neg (by omega)];exact ge5
  have qb6:=row8 gb6
  have hob6:OB H6 30 25 (Rg H3.next H5.next) bd (eightT bd.kind bd.term ta tc sa bd.sub.length sc):=hob.to (fun n hn hl=>⟨by have:=hn.1;rw[←e6,get_put,if_neg (by omega)],by omega⟩) fun _ hn=>hn
  have hfew:=(z6q (z0h.1 h0).2 ho).up (m:=1000000) (by decide)
  (repeat refine EvC.seq ?_);refine EvC.reg ?_;simp only[sB,Nat.reduceEqDiff,reduceCtorEq,ld30,cl36,cl35,qb6]
  refine(zgu (Nat.lt_succ_self _) hob6.bi hfew (fun n hn=>by have:=hn.2;omega) hx6.wf).mono ?_
  rintro v H7 ⟨hx7,outT,rfl,hrT⟩
  skip
  refine(z2j _ _ _ hrT.rep hx7.wf).mono ?_
  rintro v H8 ⟨rfl,hx8⟩
  have hx68:=hx7.trans hx8
  have n7:=hx7.next
  have n8:=hx8.next
  have gb8:=hx68.get hx6.wf gb6
  have ge8:=hx68.get hx6.wf ge6
  have qb8:=row8 gb8
  have hx18:=hx6.trans hx68
  try simp only[sA]
  by_cases h4:4000 < cnt (toldB bd) 0
  ·have hd:decide (((cnt (toldB bd) 0:Nat):Int) > 4000)=true:=by rw[z7m];exact decide_eq_true h4
   have hrs:readyS t=(zeroB,.ball (resT sNodes)):=by unfold readyS;rw[if_neg (fun h=>h h0),ho];simp only;rw[if_pos h4]
   refine EvC.condT (by simp only[sB,Nat.reduceEqDiff,reduceCtorEq,hd]) ?_;(try refine EvC.skip ?_);(try simp only[z00,z01])
   (repeat refine EvC.seq ?_);refine EvC.reg ?_;simp only[sB,Nat.reduceEqDiff,Nat.reduceAdd,Value.cells,reduceCtorEq,layC,st30,bd30,cl37]
   refine(zba (s:=sNodes) (by decide) hx18.wf).mono ?_
   rintro v H9 ⟨hx9,he9⟩
   obtain⟨pb,ab,cb,rfl,-,-⟩:=he9.rep
   have n9:=hx9.next
   have gb9:=hx9.get hx18.wf gb8
   have ge9:=hx9.get hx18.wf ge8
   repeat' (first|(refine EvC.ret ?_;try simp only[z05,z03])|(refine z0k ?_;simp only[sB,Nat.reduceEqDiff,Nat.reduceAdd,one,reduceCtorEq,st34,gb9,ge9,ne1]))
   obtain⟨H9',e9⟩:∃H9',(H9.put (H.next+1) (some (.row zero8 30))).put (H.next+1+1) (some (.row [.iface 68 (.pointer (some ⟨pb,0,none⟩))] 34))=H9':=⟨_,rfl⟩
   have g1:H9'.get (H.next+1)=some (.row zero8 30):=by rw[←e9,get_put,if_neg (by omega),get_put,if_pos rfl]
   have g2:H9'.get (H.next+1+1)=some (.row [.iface 68 (.pointer (some ⟨pb,0,none⟩))] 34):=by rw[←e9,get_put,if_pos rfl]
   have hx9':HX H H9':=by rw[←e9];exact((hx18.trans hx9).pt (by omega) gb9 _).pt (i:=H.next+1+1) (by omega) (by rw[get_put,if_neg (by omega)];exact ge9) _
   have n9':H9'.next=H9.next:=by rw[←e9];rfl
   have he9':RepES H9' (Rg H8.next H9.next) (.ball (resT sNodes)) (.iface 68 (.pointer (some ⟨pb,0,none⟩))):=he9.to fun n hn hl=>⟨by have:=hn.1;rw[←e9,get_put,if_neg (by omega),get_put,if_neg (by omega)],hn,by omega⟩
   simp only[e9]
   refine zdi (H:=H9') (fun H10 hx10=>?_) hx9'.wf
   have g1':=hx10.get hx9'.wf g1
   have q1':=row8 g1'
   have q2':=row1 (hx10.get hx9'.wf g2)
   have n10:=hx10.next
   refine z6o rfl (by simp only[sB,Nat.reduceEqDiff,reduceCtorEq];rfl) (by simp only[sA,ld30,q1'];rfl) (by simp only[sB,Nat.reduceEqDiff,reduceCtorEq];rfl) (by simp only[sA,ld34,q2'];rfl) ⟨hx9'.trans hx10,_,_,rfl,?_,?_⟩
   ·rw[hrs];exact OB.nil (by decide)
   ·rw[hrs]
    exact he9'.to fun n hn hl=>⟨hx10.keep n hl,⟨by have:=hn.1;omega,by have:=hn.2;omega⟩,by omega⟩
  ·have hd:decide (((cnt (toldB bd) 0:Nat):Int) > 4000)=false:=by rw[z7m];exact decide_eq_false h4
   have hrs:readyS t=(bd,.ok):=by unfold readyS;rw[if_neg (fun h=>h h0),ho];simp only;rw[if_neg h4]
   refine EvC.condF (by simp only[sB,Nat.reduceEqDiff,reduceCtorEq,hd]) ?_;(try refine EvC.skip ?_);(try simp only[z00,z01])
   repeat' (first|refine EvC.seq ?_|(refine EvC.ret ?_)|(refine EvC.reg ?_;simp only[sB,Nat.reduceEqDiff,Nat.reduceAdd,one,reduceCtorEq,ld30,st30,zs1,gb8,ge8,qb8,ne1]))
   obtain⟨H9',e9⟩:∃H9',(H8.put (H.next+1) (some (.row (eightT bd.kind bd.term ta tc sa bd.sub.length sc) 30))).put (H.next+1+1) (some (.row [.nilIface] 34))=H9':=⟨_,rfl⟩
   have g1:H9'.get (H.next+1)=some (.row (eightT bd.kind bd.term ta tc sa bd.sub.length sc) 30):=by rw[←e9,get_put,if_neg (by omega),get_put,if_pos rfl]
   have g2:H9'.get (H.next+1+1)=some (.row [.nilIface] 34):=by rw[←e9,get_put,if_pos rfl]
   have hx9':HX H H9':=by rw[←e9];exact(hx18.pt (by omega) gb8 _).pt (i:=H.next+1+1) (by omega) (by rw[get_put,if_neg (by omega)];exact ge8) _
   have n9':H9'.next=H8.next:=by rw[←e9];rfl
   have hob9:OB H9' 30 25 (Rg H3.next H5.next) bd (eightT bd.kind bd.term ta tc sa bd.sub.length sc):=hob6.to (fun n hn hl=>⟨by have:=hn.1;rw[←e9,get_put,if_neg (by omega),get_put,if_neg (by omega)];exact hx68.keep n hl,by omega⟩) fun _ hn=>hn
   simp only[e9]
   refine zdi (H:=H9') (fun H10 hx10=>?_) hx9'.wf
   have g1':=hx10.get hx9'.wf g1
   have q1':=row8 g1'
   have q2':=row1 (hx10.get hx9'.wf g2)
   have n10:=hx10.next
   refine z6o rfl (by simp only[sB,Nat.reduceEqDiff,reduceCtorEq];rfl) (by simp only[sA,ld30,q1'];rfl) (by simp only[sB,Nat.reduceEqDiff,reduceCtorEq];rfl) (by simp only[sA,ld34,q2'];rfl) ⟨hx9'.trans hx10,_,_,rfl,?_,?_⟩
   ·rw[hrs]
    exact(hob9.keep hx10).sub fun n hn=>⟨by have:=hn.1;omega,by have:=hn.2;omega⟩
   ·rw[hrs];exact RepES.fine
end Go.Proofs.hq
end

section
namespace Go.Proofs.hq
open Go Go.RowKit Go.Hb
variable {ok:Ok}
set_option maxRecDepth 10000
attribute [local irreducible] LX LG EL STG SOP SGO SGD SAL SRD SEF SEG SLK SCK ES
abbrev sInst:ByteArray:=⟨#[105,110,115,116,97,110,116,105,97,116,105,111,110,95,101,114,114,111,114]⟩
abbrev sAtomW:ByteArray:=⟨#[97,116,111,109]⟩
noncomputable def stripF:Nat→ByteArray→Tm→ByteArray × Tm × Er
 |0,m,t=>(m,t,.ok)
 |k+1,m,t=>if isF t sCol then
   (if (t.at 0).kind=1 then (ByteArray.empty,t,.ball (atmT sInst)) else if (t.at 0).kind=2 then stripF k (t.at 0).name (t.at 1) else (ByteArray.empty,t,.ball (typeT sAtomW (t.at 0))))
  else (m,t,.ok)
noncomputable def stripS (m:ByteArray) (t:Tm):ByteArray × Tm × Er:=stripF (SizeOf.sizeOf t+1) m t
def StripEnd (H0 H:Heap) (R:ByteArray × Tm × Er) (v:Value) (H':Heap):Prop:=HX H H'∧∃a c ev,v=.tuple ⟨[.string R.1,.agg ⟨six R.2.1 a c⟩,ev]⟩∧RepT H0 R.2.1 (six R.2.1 a c)∧RepES H' (Rg H.next H'.next) R.2.2 ev∧checkS R.2.1=0
set_option maxHeartbeats 8000000 in
theorem zgw {m:ByteArray}{t:Tm}{cs:List Value}{H0 H:Heap}(r0:RepT H0 t cs) (hx0:HX H0 H) (hw0:H0.wf) (hc:checkS t=0) (hw:H.wf):EvF Tryz.prog okT 30 [.string m,.agg ⟨cs⟩] H (StripEnd H0 H (stripS m t)):=by
 obtain⟨a,c,cells,rfl,-⟩:=r0.six
 refine EvF.enter rfl Tryz.func30 (by decide) rfl ?_
 (repeat refine EvC.seq ?_);refine EvC.reg ?_;simp (disch:=first|omega|rfl) only[sB,initTm,dBox,dAlloc,Value.cells,one,reduceCtorEq,zr25]
 obtain⟨H2,e2,hx2,g3,g5,hn2,hw2⟩:=new2 hw (.row (six t a c) 25) (.row zero6 25)
 simp only[e2]
 clear e2
 (repeat refine EvC.seq ?_)
 refine EvC.join (fun st=>∃tm H' u m' a c,st=⟨tm,[],H'⟩∧(m',u,Er.ok)=stripS m t∧checkS u=0∧tm.get 0=some (.string m')∧tm.get 3=some (.pointer (some ⟨H.next,0,none⟩))∧tm.get 5=some (.pointer (some ⟨H.next+1,0,none⟩)) ∧
  H'.get H.next=some (.row (six u a c) 25)∧H'.get (H.next+1)=some (.row zero6 25)∧RepT H0 u (six u a c)∧HX H H') ?_ ?_
 ·refine EvC.block (EvC.loop (fun k st=>∃tm H' u m' a c,st=⟨tm,[],H'⟩∧SizeOf.sizeOf u < k∧stripF k m' u=stripS m t∧checkS u=0∧tm.get 0=some (.string m')∧tm.get 3=some (.pointer (some ⟨H.next,0,none⟩))∧tm.get 5=some (.pointer (some ⟨H.next+1,0,none⟩)) ∧
   H'.get H.next=some (.row (six u a c) 25)∧H'.get (H.next+1)=some (.row zero6 25)∧RepT H0 u (six u a c)∧HX H H') ?_ (SizeOf.sizeOf t+1) _ ?_)
  rotate_left
  ·exact⟨_,_,t,m,a,c,rfl,Nat.lt_succ_self _,rfl,hc,(by simp only[sG,reduceCtorEq]),(by simp only[sG,Nat.reduceEqDiff,reduceCtorEq]),(by simp only[sG,Nat.reduceEqDiff,reduceCtorEq]),g3,g5,r0,hx2⟩
  rintro k st ⟨tm,H',u,m',a,c,rfl,hk,hR,hcu,t0,t3,t5,g3,g5,ru,hx⟩
  have hw':=hx.wf
  have q3:=row6 g3
  (repeat refine EvC.seq ?_);refine EvC.reg ?_;simp (disch:=first|omega|rfl) only[sB,ld25,cl32,t3,q3]
  refine(z7l (s:=sCol) (ru.mono (hx0.trans hx) hw0) hw').mono ?_
  rintro v H3 ⟨rfl,hx3⟩
  have g3:=hx3.get hw' g3
  have g5:=hx3.get hw' g5
  have hx:=hx.trans hx3
  have w3:=hx.wf
  have q3:=row6 g3
  obtain⟨k,rfl⟩:∃n,k=n+1:=⟨k - 1,by omega⟩
  try simp (disch:=first|omega|rfl) only[]
  by_cases hi:isF u sCol
  rotate_left
  ·rw[stripF,if_neg hi] at hR
   repeat' (first|(refine EvC.exit ?_;try simp only[sB,decide_eq_false hi])|(refine EvC.condF ?_ ?_;simp (disch:=first|omega|rfl) only[sB,Nat.reduceEqDiff,decide_eq_false hi];refine z07 ?_))
   exact⟨_,_,u,m',a,c,rfl,hR,hcu,(by simp only[sG,reduceCtorEq,t0]),(by simp only[sG,Nat.reduceEqDiff,t3]),(by simp only[sG,Nat.reduceEqDiff,t5]),g3,g5,ru,hx⟩
  rw[stripF,if_pos hi] at hR
  refine EvC.condT (by simp (disch:=first|omega|rfl) only[sB,Nat.reduceEqDiff,decide_eq_true hi]) ?_;(try refine EvC.skip ?_);(try simp only[z00,z01])
  obtain⟨x,y,hxy⟩:∃x y,u.args=[x,y]:=by
   match hl:u.args,hi.2.2 with
   |[x,y],_=>exact⟨x,y,rfl⟩
  have ex:u.at 0=x:=by unfold Tm.at;rw[hxy];rfl
  have ey:u.at 1=y:=by unfold Tm.at;rw[hxy];rfl
  have x0:u.args[0]'(by rw[hxy];simp)=x:=by simp [hxy]
  have y1:u.args[1]'(by rw[hxy];simp)=y:=by simp [hxy]
  obtain⟨a0,c0,cells0,hcs,-,-,-,-,-,rl⟩:=ru.six
  obtain⟨-,-,-,-,-,rfl,rfl⟩:=z47 hcs
  obtain⟨b,o,a1,c1,rfl,hld0,hr0⟩:=rl.el (i:=0) (by rw[hxy];simp)
  obtain⟨b',o',a2,c2,e2,hld1,hr1⟩:=rl.el (i:=1) (by rw[hxy];simp)
  cases e2
  rw[x0] at hld0 hr0
  rw[y1] at hld1 hr1
  simp only[Nat.zero_mul,Nat.add_zero,Nat.one_mul] at hld0 hld1
  have hcx:=z0s hcu (u:=x) (by rw[hxy];simp)
  have hcy:=z0s hcu (u:=y) (by rw[hxy];simp)
  have hsy:SizeOf.sizeOf y < SizeOf.sizeOf u:=z0d (by rw[hxy];simp)
  rw[ex,ey] at hR
  have hxl:u.args.length=2:=hi.2.2
  have l0:=(hx0.trans hx).load hw0 hld0
  (repeat refine EvC.seq ?_)
  refine EvC.block ?_
  (repeat refine EvC.seq ?_);refine EvC.reg ?_;simp (disch:=first|omega|rfl) only[sB,dAlloc,Nat.reduceEqDiff,Nat.reduceAdd,one,Int.reduceToNat,zr25,ld25,z0g,ld23,st25,t3,q3,hxl,l0,iz23,Nat.zero_mul]
  obtain⟨H4,e4,hx4,g7,hn4,w4⟩:=z0r w3 (.row zero6 25) (.row (six x a1 c1) 25)
  simp only[e4]
  clear e4
  have g3:=hx4.get w3 g3
  have g5:=hx4.get w3 g5
  have q3:=row6 g3
  have q7:=row6 g7
  have hx:=hx.trans hx4
  have l1:=(hx0.trans hx).load hw0 hld1
  (repeat refine EvC.seq ?_);refine EvC.reg ?_;simp (disch:=first|omega|rfl) only[sB,Nat.reduceEqDiff,z0f,ld3,q7]
  (repeat refine EvC.seq ?_)
  refine EvC.block ?_
  have n4:=hx.next
  by_cases k1:x.kind=1
  ·rw[if_pos k1] at hR
   (repeat refine EvC.seq ?_);refine EvC.reg ?_;simp (disch:=first|omega|rfl) only[sB,Nat.reduceEqDiff,z0i k1]
   refine EvC.condT (by simp (disch:=first|omega|rfl) only[sB,Nat.reduceEqDiff]) ?_;(try refine EvC.skip ?_);(try simp only[z00,z01])
   (repeat refine EvC.seq ?_);refine EvC.drw [([],some 1),([],some 2),([(0,0),(3,2)],some 4),([(5,3)],none)] (by kernel_rfl) ?_;simp (disch:=first|omega|rfl) only[sD,sA,Nat.reduceAdd,cl31]
   have hb:=(HX.refl w4).bump 6
   refine(z4a hb.wf).mono ?_
   rintro v H5 ⟨rfl,hx5⟩
   have w5:=hx5.wf
   have q35:=row6 ((hb.trans hx5).get w4 g3)
   repeat' (first|(refine z0n ?_;simp (disch:=first|omega|rfl) only[sD,sB,Nat.reduceEqDiff,cl33]))
   refine(z7w (S:=fun _=>False) (z1t (by decide)) w5 (fun _ h=>h.elim)).mono ?_
   rintro v H6 ⟨hx6,he6⟩
   have hx46:=(hb.trans hx5).trans hx6
   have q36:=row6 (hx46.get w4 g3)
   have g5:=hx46.get w4 g5
   have n6:=hx46.next
   repeat' (first|(refine EvC.ret ?_;try simp only[z05,z03])|(refine z0n ?_;simp (disch:=first|omega|rfl) only[sV,sD,sB,Nat.reduceEqDiff,Nat.reduceAdd,one,reduceCtorEq,ld25,st25,t3,q3,q35,q36,g5,t5,isAlloc,isRead]))
   have hxz:=(hx.trans hx46).pt (i:=H.next+1) (by omega) g5 (some (.row (six u (some ⟨b,o,none⟩) c) 25))
   have n5:H4.next+6≤H5.next:=hx5.next
   have n56:=hx6.next
   rw[←hR]
   refine z4m rfl (by simp only[sB,Nat.reduceEqDiff];rfl) (by simp only[sB,Nat.reduceEqDiff,t5];rfl) (by simp only[sB,Nat.reduceAdd,cutC,ld25]) (by simp only[sG,Nat.reduceEqDiff]) ⟨hxz,_,_,_,rfl,ru,he6.to fun n hn hl=>?_,hcu⟩
   have hn':=hn.resolve_left (fun h=>h)
   exact⟨by rw[get_put,if_neg (by omega)],⟨by omega,by rw[z06];omega⟩,by rw[z06];omega⟩
  rw[if_neg k1] at hR
  (repeat refine EvC.seq ?_);refine EvC.reg ?_;simp (disch:=first|omega|rfl) only[sB,Nat.reduceEqDiff,z0j k1]
  refine EvC.condF (by simp (disch:=first|omega|rfl) only[sB,Nat.reduceEqDiff]) ?_;(try refine EvC.skip ?_);(try simp only[z00,z01])
  by_cases k2:x.kind=2
  ·rw[if_pos k2] at hR
   (repeat refine EvC.seq ?_);refine EvC.reg ?_;simp (disch:=first|omega|rfl) only[sB,Nat.reduceEqDiff,z0i k2]
   refine EvC.condT (by simp (disch:=first|omega|rfl) only[sB,Nat.reduceEqDiff]) ?_;(try refine EvC.skip ?_);(try simp only[z00,z01])
   refine EvC.drw [([(0,0),(1,0),(2,0),(3,0),(4,0),(5,0),(6,0)],some 7),([],none)] (by kernel_rfl) ?_;simp (disch:=first|omega|rfl) only[sD,sB,Nat.reduceEqDiff,Nat.reduceAdd,one,reduceCtorEq,Int.reduceToNat,ld25,z0g,ld23,st25,z18,ld9,isAlloc,isRead,t3,q3,q7,g3,l1,hxl,iz23,Nat.one_mul]
   have hb:=hx.bump 8
   have hz:=hb.pt (i:=H.next) (Nat.le_refl _) (show Heap.get ⟨H4.next+8,H4.t⟩ H.next=_ from g3) (some (.row (six y a2 c2) 25))
   exact⟨k,Nat.lt_succ_self _,_,_,y,x.name,a2,c2,rfl,by omega,hR,hcy,(by simp only[sG,reduceCtorEq]),(by simp only[sG,Nat.reduceEqDiff,reduceCtorEq,t3]),(by simp only[sG,Nat.reduceEqDiff,reduceCtorEq,t5]),by rw[get_put,if_pos rfl],by rw[get_put,if_neg (by omega)];exact g5,hr1,hz⟩
  ·rw[if_neg k2] at hR
   (repeat refine EvC.seq ?_);refine EvC.reg ?_;simp (disch:=first|omega|rfl) only[sB,Nat.reduceEqDiff,z0j k2]
   refine EvC.condF (by simp (disch:=first|omega|rfl) only[sB,Nat.reduceEqDiff]) ?_;(try refine EvC.skip ?_);(try simp only[z00,z01])
   (repeat refine EvC.seq ?_);refine EvC.drw [([(1,0)],some 2),([(0,0),(3,1)],some 4),([(5,2)],none)] (by kernel_rfl) ?_;simp (disch:=first|omega|rfl) only[sD,sB,Nat.reduceEqDiff,Nat.reduceAdd,reduceCtorEq,ld25,cl34,isAlloc,isRead,q7]
   have hb:=(HX.refl w4).bump 6
   refine(z6n (s:=sAtomW) (by decide) ((hr0.mono (hx0.trans hx) hw0).mono hb w4) hcx hb.wf).mono ?_
   rintro v H6 ⟨hx6,he6⟩
   have hx46:=hb.trans hx6
   have q36:=row6 (hx46.get w4 g3)
   have g5:=hx46.get w4 g5
   have n6:=hx46.next
   repeat' (first|(refine EvC.ret ?_;try simp only[z05,z03])|(refine z0n ?_;simp (disch:=first|omega|rfl) only[sV,sD,sB,Nat.reduceEqDiff,Nat.reduceAdd,one,reduceCtorEq,ld25,st25,t3,q3,q36,g5,t5,isAlloc,isRead]))
   have hxz:=(hx.trans hx46).pt (i:=H.next+1) (by omega) g5 (some (.row (six u (some ⟨b,o,none⟩) c) 25))
   have n5:H4.next+6≤H6.next:=hx6.next
   rw[←hR]
   refine z4m rfl (by simp only[sB,Nat.reduceEqDiff];rfl) (by simp only[sB,Nat.reduceEqDiff,t5];rfl) (by simp only[sB,Nat.reduceAdd,cutC,ld25]) (by simp only[sG,Nat.reduceEqDiff]) ⟨hxz,_,_,_,rfl,ru,he6.to fun n hn hl=>?_,hcu⟩
   have hn':H4.next+6≤n:=hn.1
   exact⟨by rw[get_put,if_neg (by omega)],⟨by omega,by rw[z06];omega⟩,by rw[z06];omega⟩
 ·rintro st ⟨tm,H',u,m',a,c,rfl,hR,hcu,t0,t3,t5,g3,g5,ru,hx⟩
  have q3:=row6 g3
  simp only[z00]
  have hz:=(hx.bump 5).pt (i:=H.next+1) (by omega) (show Heap.get ⟨H'.next+5,H'.t⟩ (H.next+1)=_ from g5) (some (.row (six u a c) 25))
  (repeat refine EvC.seq ?_);refine EvC.drw [([(0,0),(1,0),(2,0)],some 3),([(4,1)],none)] (by kernel_rfl) ?_;simp (disch:=first|omega|rfl) only[sD,sB,Nat.reduceEqDiff,Nat.reduceAdd,one,reduceCtorEq,ld25,st25,isAlloc,isRead,t0,t3,t5,q3,g5]
  repeat' (first|(refine EvC.ret ?_))
  rw[←hR]
  refine z4m rfl (by simp only[sG,Nat.reduceEqDiff]) (by simp only[sB,Nat.reduceEqDiff,t5];rfl) (by simp only[sB,Nat.reduceAdd,cutC,ld25]) (by simp only[sG,Nat.reduceEqDiff]) ⟨hz,_,_,_,rfl,ru,RepES.fine,hcu⟩
theorem few6 {t:Tm}(h:checkS t=0):Few 1000000 t:=(Fine.few _ (Nat.lt_succ_self _) (z0h.1 h).2).up (by decide)
theorem z58 {t:Tm}{cs:List Value}{H:Heap}(r:RepT H t cs) (hf:Few 1000000 t) (hw:H.wf):EvF Tryz.prog okT 6 [.agg ⟨cs⟩] H fun v H'=>HX H H'∧∃out,v=.agg ⟨out⟩∧OT H' (Rg H.next H'.next) t out :=
 (zkc (Nat.lt_succ_self _) r hf hw).mono fun v H' ⟨cs',hv,hr,hx⟩=>⟨hx,cs',hv,RepF.toS hr hx.wf,RepF.top hr hx.wf⟩
theorem zeu {t:Tm}{cs:List Value}{H:Heap}(r:RepT H t cs) (hw:H.wf):EvF Tryz.prog okT 44 [.agg ⟨cs⟩] H fun v H'=>v=.bool (decide (isNum t))∧HX H H':=by
 obtain⟨a,c,cells,rfl,-⟩:=r.six
 refine EvF.enter rfl Tryz.func44 (by decide) rfl ?_
 (repeat refine EvC.seq ?_);refine EvC.reg ?_;simp only[sB,initTm,dBox,Value.cells,one]
 obtain⟨H2,e2,hx2,gt,hn2,hw2⟩:=new1 hw (.row (six t a c) 25)
 simp only[e2]
 have qt:=row6 gt
 by_cases n3:t.kind=3
 ·have hd:decide (isNum t)=true:=decide_eq_true (.inl n3)
  repeat' (first|refine EvC.seq ?_|(refine EvC.ret ?_)|(refine EvC.reg ?_;simp only[sB,Nat.reduceEqDiff,reduceCtorEq,z0f,ld3,qt,z0i n3]))
  exact z04 rfl (by simp only[sB,Nat.reduceEqDiff,reduceCtorEq];rfl) ⟨by rw[hd],hx2⟩
 by_cases n4:t.kind=4
 ·have hd:decide (isNum t)=true:=decide_eq_true (.inr n4)
  repeat' (first|refine EvC.seq ?_|(refine EvC.ret ?_)|(refine EvC.reg ?_;simp only[sB,Nat.reduceEqDiff,reduceCtorEq,z0f,ld3,qt,z0j n3,z0i n4,Bool.false_eq_true]))
  exact z04 rfl (by simp only[sB,Nat.reduceEqDiff,reduceCtorEq];rfl) ⟨by rw[hd],hx2⟩
 ·have hd:decide (isNum t)=false:=decide_eq_false fun h=>by rcases h with h|h;exact n3 h;exact n4 h
  repeat' (first|refine EvC.seq ?_|(refine EvC.ret ?_)|(refine EvC.reg ?_;simp only[sB,Nat.reduceEqDiff,reduceCtorEq,z0f,ld3,qt,z0j n3,z0j n4,Bool.false_eq_true]))
  exact z04 rfl (by simp only[sB,Nat.reduceEqDiff,reduceCtorEq];rfl) ⟨by rw[hd],hx2⟩
theorem z7n {t:Tm}{cs:List Value}{s:ByteArray}{H:Heap}(r:RepT H t cs) (hw:H.wf) :
  EvF Tryz.prog okT 42 [.agg ⟨cs⟩,.string s] H fun v H'=>v=.bool (decide (isF t s))∧HX H H':=by
 obtain⟨a,c,cells,rfl,-⟩:=r.six
 refine EvF.enter rfl Tryz.func42 (by decide) rfl ?_
 (repeat refine EvC.seq ?_);refine EvC.reg ?_;simp only[sB,initTm,dBox,Value.cells,one,reduceCtorEq]
 obtain⟨H2,e2,hx2,gt,hn2,hw2⟩:=new1 hw (.row (six t a c) 25)
 simp only[e2]
 have qt:=row6 gt
 by_cases k5:t.kind=5
 rotate_left
 ·have hd:decide (isF t s)=false:=decide_eq_false fun h=>k5 h.1
  repeat' (first|refine EvC.seq ?_|(refine EvC.ret ?_)|(refine EvC.reg ?_;simp only[sB,Nat.reduceEqDiff,reduceCtorEq,z0f,ld3,qt,z0j k5,Bool.false_eq_true]))
  exact z04 rfl (by simp only[sB,Nat.reduceEqDiff,reduceCtorEq];rfl) ⟨by rw[hd],hx2⟩
 by_cases kn:t.name=s
 rotate_left
 ·have hd:decide (isF t s)=false:=decide_eq_false fun h=>kn h.2.1
  repeat' (first|refine EvC.seq ?_|(refine EvC.ret ?_)|(refine EvC.reg ?_;simp only[sB,Nat.reduceEqDiff,reduceCtorEq,z0f,ld3,z18,ld9,qt,z0i k5,z0z,za8 kn,Bool.false_eq_true]))
  exact z04 rfl (by simp only[sB,Nat.reduceEqDiff,reduceCtorEq];rfl) ⟨by rw[hd],hx2⟩
 by_cases k2:t.args.length=2
 ·have hd:decide (isF t s)=true:=decide_eq_true ⟨k5,kn,k2⟩
  have k2':(t.args.length:Int)=2:=by omega
  repeat' (first|refine EvC.seq ?_|(refine EvC.ret ?_)|(refine EvC.reg ?_;simp only[sB,Nat.reduceEqDiff,reduceCtorEq,z0f,ld3,z18,ld9,z0g,ld23,ln23,qt,z0i k5,z0z,z7k kn,z0i k2']))
  exact z04 rfl (by simp only[sB,Nat.reduceEqDiff,reduceCtorEq];rfl) ⟨by rw[hd],hx2⟩
 ·have hd:decide (isF t s)=false:=decide_eq_false fun h=>k2 h.2.2
  have k2':(t.args.length:Int)≠2:=by omega
  repeat' (first|refine EvC.seq ?_|(refine EvC.ret ?_)|(refine EvC.reg ?_;simp only[sB,Nat.reduceEqDiff,reduceCtorEq,z0f,ld3,z18,ld9,z0g,ld23,ln23,qt,z0i k5,z0z,z7k kn,z0j k2']))
  exact z04 rfl (by simp only[sB,Nat.reduceEqDiff,reduceCtorEq];rfl) ⟨by rw[hd],hx2⟩
theorem zib {s:ByteArray}{H:Heap}(hw:H.wf):EvF Tryz.prog okT 25 [.string s] H fun v H'=>v=.agg ⟨six (atmT s) none 0⟩∧HX H H':=by
 refine EvF.enter rfl Tryz.func25 (by decide) rfl ?_
 repeat' (first|refine EvC.seq ?_|(refine EvC.ret ?_)|(refine EvC.reg ?_;simp only[sB,initTm,dAlloc,Nat.reduceEqDiff,Nat.reduceAdd,Value.cells,one,reduceCtorEq,Nat.reduceLeDiff,layC,zr25,bd25,st25]))
 exact z0a rfl (by simp only[sB,Nat.reduceEqDiff,reduceCtorEq];rfl) (by simp only[sB,Nat.reduceAdd,cutC,ld25];rfl) ⟨rfl,((HX.refl hw).new _).put (Nat.le_refl _) (Nat.lt_succ_self _) _⟩
set_option maxHeartbeats 2000000 in
theorem zgx {t:Tm}{cs:List Value}{H:Heap}(r0:RepT H t cs) (hc:checkS t=0) (hw:H.wf) :
  EvF Tryz.prog okT 70 [.agg ⟨cs⟩] H fun v H'=>HX H H'∧∃out,v=.agg ⟨out⟩∧OB H' 30 25 (Rg H.next H'.next) (callB t) out:=by
 obtain⟨a,c,cells,rfl,-⟩:=r0.six
 refine EvF.enter rfl Tryz.func70 (by decide) rfl ?_
 (repeat refine EvC.seq ?_);refine EvC.reg ?_;simp only[sB,initTm,dBox,dAlloc,Value.cells,one,zr30]
 obtain⟨H2,e2,hx2,gt,gq,hn2,hw2⟩:=new2 hw (.row (six t a c) 25) (.row zero8 30)
 simp only[e2]
 clear e2
 have qt:=row6 gt
 (repeat refine EvC.seq ?_);refine EvC.reg ?_;simp only[sB,Nat.reduceEqDiff,Nat.reduceAdd,Value.cells,reduceCtorEq,layC,ld25,cl6,z4g,qt]
 refine(z58 (r0.mono hx2 hw) (few6 hc) hw2).mono ?_
 rintro v H3 ⟨hx3,out,rfl,hot⟩
 obtain⟨a3,c3,z7f,rfl,-⟩:=hot.rep.six
 have gq3:=hx3.get hw2 gq
 repeat' (first|(refine z0k ?_;simp only[sB,Nat.reduceEqDiff,Nat.reduceAdd,Value.cells,one,reduceCtorEq,Nat.reduceLeDiff,layC,cl24,bd30]))
 obtain⟨H4,e4,hx4,g4,hn4,hw4⟩:=new1 hx3.wf (.row (six t a3 c3) 25)
 simp only[e4]
 refine(F_ev (cs:=six t a3 c3) (by decide) (by decide) (ld1 g4 rfl) rfl hw4).mono ?_
 rintro v H5 ⟨rfl,g5,n5',hx5⟩
 have gq5:=hx5.get hw4 (hx4.get hx3.wf gq3)
 have n3:=hx3.next
 have n5:=hx5.next
 have hx35:=hx4.trans hx5
 repeat' (first|(refine EvC.ret ?_)|(refine z0k ?_;simp only[sB,Nat.reduceEqDiff,Nat.reduceAdd,one,reduceCtorEq,Nat.reduceLeDiff,st30,gq5]))
 refine z0a rfl (by simp only[sB,Nat.reduceEqDiff,reduceCtorEq];rfl) (by simp only[sB,Nat.reduceAdd,cutC,ld30];rfl) ⟨((hx2.trans hx3).trans hx35).pt (by omega) gq5 _,_,rfl,?_⟩
 have ho:OT H5 (fun n=>Rg H.next H5.next n∧n≠H.next+1) (cmpT sCall [t]) (six (cmpT sCall [t]) (some ⟨H4.next+2,0,none⟩) 1):=by
  refine OT.comp (by decide) g5 ⟨⟨by omega,by omega⟩,by omega⟩ (Nat.le_refl _) (Nat.le_refl _) (by decide) hx5.wf fun j hj=>?_
  match j,hj with
  |0,_=>exact hot.1.to fun n hn hl=>⟨hx35.keep n hl,⟨⟨by have:=hn.1;omega,by omega⟩,by have:=hn.1;omega⟩,by omega⟩
 refine OB.to (S:=fun n=>Rg H.next H5.next n∧n≠H.next+1) (.leaf _ 3 _ _ (by decide) ho.1 ho.2) (fun n hn hl=>⟨by rw[get_put,if_neg hn.2],by rw[z06];exact hl⟩) fun n hn=>⟨hn.1.1,by rw[z06];exact hn.1.2⟩
def RBEnd (H:Heap) (o:Option Bdy) (v:Value) (H':Heap):Prop:=HX H H'∧∃out bd,v=.tuple ⟨[.agg ⟨out⟩,.bool o.isSome]⟩∧OB H' 30 25 (Rg H.next H'.next) bd out∧∀b,o=some b→bd=b
def RBodyP (m:Nat):Prop:=∀(t:Tm) (cs:List Value) (H:Heap),SizeOf.sizeOf t < m→RepT H t cs→checkS t=0→H.wf→EvF Tryz.prog okT 45 [.agg ⟨cs⟩] H (RBEnd H (bodyF m t))
set_option maxHeartbeats 8000000 in
theorem z6r {m:Nat}(hb:RBodyP m) {k:Int}{l:List Tm}{a:Option Addr}{c:Nat}{cells:Nat→List Value}{H:Heap}(hk:i64 k) (rl:RepL H l a c cells) (hl:l.length≤64) (hs:∀t∈l,SizeOf.sizeOf t < m∧checkS t=0) (hw:H.wf) :
  EvF Tryz.prog okT 72 [.int .i64 k,.slice a l.length c] H (RBEnd H (subBF (bodyF m) k l)):=by
 have apB:apOk Tryz.prog 28 30 8:=ap28
 refine EvF.enter rfl Tryz.func72 (by decide) rfl ?_
 (repeat refine EvC.seq ?_);refine EvC.reg ?_;simp (disch:=first|omega|rfl) only[sA,initTm,dAlloc,zr30]
 obtain⟨H2,e2,hx2,g4,hn2,hw2⟩:=new1 hw (.row zero8 30)
 simp only[e2]
 clear e2
 (repeat refine EvC.seq ?_);refine EvC.reg ?_;simp (disch:=first|omega|rfl) only[sB,dAlloc,Nat.reduceEqDiff,Nat.reduceAdd,Value.cells,one,reduceCtorEq,Nat.reduceLeDiff,layC,zr30,bd30,st30]
 obtain⟨H3,e3,hx3,g5,hn3,hw3⟩:=z0r hw2 (.row zero8 30) (.row [.int .i64 k,.int .i64 0,.string ByteArray.empty,.string ByteArray.empty,.int .u64 0,.int .i64 0,.slice none 0 0,.slice none 0 0] 30)
 simp only[e3]
 clear e3
 rw[hn2] at g5 hn3
 have g5:H3.get (H.next+1)=some (.row (eightT k zeroT none 0 none 0 0) 30):=g5
 have g4:=hx3.get hw2 g4
 have hx:=hx2.trans hx3
 have hmax:=rl.max
 (repeat refine EvC.seq ?_);refine EvC.reg ?_;simp (disch:=first|omega|rfl) only[sA]
 refine EvC.join (fun st=>∃tm G bs ao co,st=⟨tm,[],G⟩∧tm.get 4=some (.pointer (some ⟨H.next,0,none⟩))∧tm.get 6=some (.pointer (some ⟨H.next+1,0,none⟩))∧G.get H.next=some (.row zero8 30) ∧
  G.get (H.next+1)=some (.row (eightT k zeroT none 0 ao bs.length co) 30)∧subBL (bodyF m) l=some bs∧OBL G 30 25 (fun n=>H.next+2≤n∧n < G.next) bs ao co∧HX H G) ?_ ?_
 ·refine EvC.block (EvC.loop (fun k' st=>∃tm G i bs ao co,st=⟨tm,[],G⟩∧k'=l.length - i∧i≤l.length∧bs.length=i∧tm.get 1=some (.slice a l.length c)∧tm.get 4=some (.pointer (some ⟨H.next,0,none⟩))∧tm.get 6=some (.pointer (some ⟨H.next+1,0,none⟩)) ∧
   tm.get 7=some (.int .i64 (i:Nat))∧G.get H.next=some (.row zero8 30)∧G.get (H.next+1)=some (.row (eightT k zeroT none 0 ao i co) 30) ∧
   subBL (bodyF m) (l.take i)=some bs∧OBL G 30 25 (fun n=>H.next+2≤n∧n < G.next) bs ao co∧HX H G) ?_ l.length _ ?_)
  rotate_left
  ·exact⟨_,_,0,[],none,0,rfl,rfl,Nat.zero_le _,rfl,(by simp only[sG,Nat.reduceEqDiff,reduceCtorEq]),(by simp only[sG,Nat.reduceEqDiff,reduceCtorEq]),by rw[←hn2];first|(simp only[sG,Nat.reduceEqDiff,reduceCtorEq];rfl)|simp only[sG,Nat.reduceEqDiff,reduceCtorEq],(by simp only[sB,Nat.reduceEqDiff,reduceCtorEq];rfl),g4,g5,rfl,.nil,hx⟩
  rintro k' st ⟨tm,G,i,bs,ao,co,rfl,rfl,hi,hbl,t1,t4,t6,t7,g4G,g5G,hsub,hobl,hxG⟩
  have hwG:=hxG.wf
  by_cases hlt:i < l.length
  rotate_left
  ·repeat' (first|refine EvC.seq ?_|(refine EvC.exit ?_;try simp only[sB])|(refine EvC.reg ?_;simp (disch:=first|omega|rfl) only[sB,Nat.reduceEqDiff,ln23,t1,t7,decn hlt])|(refine EvC.condF ?_ ?_;simp (disch:=first|omega|rfl) only[sB,Nat.reduceEqDiff];refine z07 ?_))
   obtain rfl:i=l.length:=by omega
   rw[List.take_length] at hsub
   exact⟨_,_,bs,ao,co,rfl,(by simp only[sG,Nat.reduceEqDiff,t4]),(by simp only[sG,Nat.reduceEqDiff,t6]),g4G,by rw[hbl];exact g5G,hsub,hobl,hxG⟩
  obtain⟨b,o,a1,c1,rfl,hld,hr1⟩:=rl.el hlt
  have hld1:=hxG.load hw hld
  have hsi:=hs l[i] (List.getElem_mem _)
  subst hbl
  have q5G:=row8 g5G
  (repeat refine EvC.seq ?_);refine EvC.reg ?_;simp (disch:=first|omega|rfl) only[sB,Nat.reduceEqDiff,ln23,t1,t7,decl hlt]
  refine EvC.condT (by simp (disch:=first|omega|rfl) only[sB,Nat.reduceEqDiff]) ?_;(try refine EvC.skip ?_);(try simp only[z00,z01])
  refine EvC.seq ?_
  refine EvC.block ?_
  (repeat refine EvC.seq ?_);refine EvC.reg ?_;simp (disch:=first|omega|rfl) only[sB,Nat.reduceEqDiff,ia23,ld25,cl45,t1,t7,hld1]
  refine(hb l[bs.length] _ G hsi.1 (hr1.mono hxG hw) hsi.2 hwG).mono ?_
  rintro v H5 ⟨hx5,out,bd,rfl,hob,hbd⟩
  obtain⟨ta,tc,sa,sc,rfl⟩:=hob.rep.eight
  have n5:=hx5.next
  try simp (disch:=first|omega|rfl) only[sB,dAlloc,Nat.reduceEqDiff,Nat.reduceAdd,one,zr30,st30]
  obtain⟨H6,e6,hx6,g6,hn6,hw6⟩:=z0r hx5.wf (.row zero8 30) (.row (eightT bd.kind bd.term ta tc sa bd.sub.length sc) 30)
  simp only[e6]
  clear e6
  have hx46:=hx5.trans hx6
  have g46:=hx46.get hwG g4G
  have g56:=hx46.get hwG g5G
  have q6:=row8 g6
  have q56:=row8 g56
  have hlg:=hwG _ _ g5G
  cases hbi:bodyF m l[bs.length] with
  |none =>
   rw[hbi] at hbd
   (repeat refine EvC.seq ?_);refine EvC.reg ?_;simp (disch:=first|omega|rfl) only[sB,Nat.reduceEqDiff]
   refine EvC.condT (by simp (disch:=first|omega|rfl) only[sB,Nat.reduceEqDiff,Option.isSome_none,Bool.not_false]) ?_;(try refine EvC.skip ?_);(try simp only[z00,z01])
   repeat' (first|refine EvC.seq ?_|(refine EvC.ret ?_;try simp only[z05,z03])|(refine EvC.reg ?_;simp (disch:=first|omega|rfl) only[sB,Nat.reduceEqDiff,Nat.reduceAdd,Value.cells,one,layC,bd30,st30,t4,g46]))
   refine z0b rfl (by simp only[sB,Nat.reduceEqDiff,t4];rfl) (by simp only[sB,Nat.reduceAdd,cutC,ld30];rfl) (by simp only[sB,Nat.reduceEqDiff];rfl) ⟨(hxG.trans hx46).pt (Nat.le_refl _) g46 _,_,zeroB,?_,OB.nil (by decide),?_⟩
   ·rw[show subBF (bodyF m) k l=none from by unfold subBF;rw[z6l (List.getElem_mem _) hbi];rfl];rfl
   ·intro b hb
    rw[show subBF (bodyF m) k l=none from by unfold subBF;rw[z6l (List.getElem_mem _) hbi];rfl] at hb
    cases hb
  |some bd' =>
   obtain rfl:=hbd bd' hbi
   (repeat refine EvC.seq ?_);refine EvC.reg ?_;simp (disch:=first|omega|rfl) only[sB,Nat.reduceEqDiff]
   refine EvC.condF (by simp (disch:=first|omega|rfl) only[sB,Nat.reduceEqDiff,Option.isSome_some,Bool.not_true]) ?_;(try refine EvC.skip ?_);(try simp only[z00,z01])
   refine EvC.reg ?_
   try simp (disch:=first|omega|rfl) only[sB,Nat.reduceEqDiff,Nat.reduceAdd,Value.cells,one,layC,z2r,ld28,ld30,zga,t6,q56,q6]
   obtain⟨H7,e7,hx7,g7,hn7,hw7⟩:=new1 hw6 (.row (eightT bd.kind bd.term ta tc sa bd.sub.length sc) 30)
   simp only[e7]
   clear e7
   have hx47:=hx46.trans hx7
   have n7:=hx7.next
   obtain⟨H8,e8,hobl8,hk8,hn8⟩:=OBL.push (N:=Rg G.next H5.next) (S2:=fun n=>H.next+2≤n∧n < H7.next+1) (c1:=1) apB (hobl.keep hx47) hw7 (ld1 g7 rfl) ((hob.keep hx6).keep hx7) (fun n hn hs=>by have:G.next≤n:=hn.1;have:=hs.2;omega) (fun n hn=>by have:=hn.2;omega)
    (fun n hn=>by have:=hn.2;omega) (by unfold most;omega) (fun n hn=>by
     rcases hn with hn|hn|hn
     ·exact⟨hn.1,by omega⟩
     ·exact⟨by have:G.next≤n:=hn.1;omega,by have:=hn.2;omega⟩
     ·exact⟨by omega,by omega⟩)
   have g58:=hk8.get hw7 (hx47.get hwG g5G) (fun hs=>by have:=hs.1;omega)
   have g48:=hk8.get hw7 (hx47.get hwG g4G) (fun hs=>by have:=hs.1;omega)
   have hx8:HX H H8:=(hxG.trans hx47).then hk8 fun n hn hs=>by have:=hs.1;omega
   repeat' (first|(refine EvC.reg ?_;simp (disch:=first|omega|rfl) only[sB,Nat.reduceEqDiff,t7,z0c])|(refine z0k ?_;simp (disch:=first|omega|rfl) only[sB,Nat.reduceEqDiff,Nat.reduceAdd,one,z2r,st28,t6,e8,g58]))
   refine⟨l.length - (bs.length+1),by omega,_,_,bs.length+1,bs++[bd],some ⟨H7.next,0,none⟩,bs.length+1,rfl,rfl,by omega,by simp,(by simp only[sG,Nat.reduceEqDiff,t1]),(by simp only[sG,Nat.reduceEqDiff,t4]),(by simp only[sG,Nat.reduceEqDiff,t6]),(by simp only[sB,Nat.reduceEqDiff];rfl),by rw[get_put,if_neg (by omega)];exact g48,by rw[get_put,if_pos rfl],
    by rw[←List.take_append_getElem hlt];exact z5t hsub hbi,hobl8.to (fun n hn hl=>⟨by rw[get_put,if_neg (by omega)],by rw[z06];exact hl⟩) fun n hn=>⟨hn.1,by rw[z06,hn8];exact hn.2⟩,hx8.pt (by omega) g58 _⟩
 ·rintro st ⟨tm,G,bs,ao,co,rfl,t4,t6,g4G,g5G,hsub,hobl,hxG⟩
  have q5:=row8 g5G
  repeat' (first|refine EvC.seq ?_|(refine EvC.ret ?_)|(refine EvC.reg ?_;simp (disch:=first|omega|rfl) only[sB,Nat.reduceEqDiff,Nat.reduceAdd,one,st30,ld30,t4,t6,q5,g4G]))
  have hsb:subBF (bodyF m) k l=some (.mk k zeroT bs):=by unfold subBF;rw[hsub];rfl
  refine z0b rfl (by simp only[sB,Nat.reduceEqDiff,t4];rfl) (by simp only[sB,Nat.reduceAdd,cutC,ld30];rfl) (by simp only[sB,Nat.reduceEqDiff];rfl) ⟨hxG.pt (Nat.le_refl _) g4G _,_,.mk k zeroT bs,by rw[hsb];rfl,OBL.mk (ts:=six zeroT none 0) (hobl.to (fun n hn hl=>⟨by rw[get_put,if_neg (by omega)],by rw[z06];exact hl⟩) fun n hn=>⟨by omega,by rw[z06];exact hn.2⟩) hk (RepS.leaf zb7 rfl (Nat.zero_le _) (fun _=>rfl)) rfl,fun b hb=>by rw[hsb] at hb;cases hb;rfl⟩
theorem OBL.one {H:Heap}{TB TT:TypeId}{S N:Nat→Prop}{u:Bdy}{cs:List Value}{b:Nat}(hg:H.get b=some (.row cs TB)) (hu:OB H TB TT N u cs) (hw:H.wf) (hS:S b) (hN:∀n,N n→S n) (hb:¬N b):OBL H TB TT S [u] (some ⟨b,0,none⟩) 1:=by
 obtain⟨hone,hlen⟩:=hu.rep.ones
 refine .inr ⟨b,cs,fun _=>N,rfl,Nat.le_refl _,by decide,hg,hS,hw _ _ hg,by simp [hlen],fun i v hv=>?_,fun i _=>hb,fun i n _ hn=>hN n hn,fun i j n hi hj _ _=>by simp at hi hj;omega⟩
 match i,hv with
 |0,hv =>
  cases hv
  rw[Nat.zero_mul,List.drop_zero,List.take_of_length_le (by omega)]
  exact hu
theorem repX {H:Heap}{x:Tm}{a:Option Addr}{c:Nat}{S:Nat→Prop}(r:RepT H x (six x a c)) (hx:x.args=[]) {H':Heap}:RepS H' S x (six x a c):=by
 obtain⟨ax,cx,cellsx,ee,-,-,-,-,-,rlx⟩:=r.six
 obtain⟨-,-,-,-,-,rfl,rfl⟩:=z47 ee
 exact RepS.leaf r.bd hx rlx.cap fun h=>(rlx.nil h).2
set_option maxHeartbeats 8000000 in
theorem zic {m:Nat}(hb:RBodyP m) {t:Tm}{cs:List Value}{H:Heap}(hs:SizeOf.sizeOf t < m+1) (r:RepT H t cs) (h2:t.args.length=2) (hc:checkS t=0) (hw:H.wf) :
  EvF Tryz.prog okT 71 [.agg ⟨cs⟩] H (RBEnd H (withinF (bodyF m) t)):=by
 have r0:=r
 obtain⟨a,c,cells,rfl,-,-,-,-,-,rl⟩:=r.six
 obtain⟨x,y,hxy⟩:∃x y,t.args=[x,y]:=by
  match hl:t.args,h2 with
  |[x,y],_=>exact⟨x,y,rfl⟩
 have ex:t.at 0=x:=by unfold Tm.at;rw[hxy];rfl
 have ey:t.at 1=y:=by unfold Tm.at;rw[hxy];rfl
 have g0:t.args[0]'(by omega)=x:=by simp [hxy]
 have g1:t.args[1]'(by omega)=y:=by simp [hxy]
 obtain⟨b,o,a1,c1,rfl,hld0,hr0⟩:=rl.el (i:=0) (by omega)
 obtain⟨b',o',a2,c2,e2,hld1,hr1⟩:=rl.el (i:=1) (by omega)
 cases e2
 rw[g0] at hld0 hr0
 rw[g1] at hld1 hr1
 simp only[Nat.zero_mul,Nat.add_zero,Nat.one_mul] at hld0 hld1
 have hcx:=z0s hc (u:=x) (by rw[hxy];simp)
 have hcy:=z0s hc (u:=y) (by rw[hxy];simp)
 have hsy:SizeOf.sizeOf y < SizeOf.sizeOf t:=z0d (by rw[hxy];simp)
 refine EvF.enter rfl Tryz.func71 (by decide) rfl ?_
 (repeat refine EvC.seq ?_);refine EvC.reg ?_;simp (disch:=first|omega|rfl) only[sB,initTm,dBox,dAlloc,Value.cells,one,zr30]
 obtain⟨H2,e2,hx2,gt,gq,hn2,hw2⟩:=new2 hw (.row (six t (some ⟨b,o,none⟩) c) 25) (.row zero8 30)
 simp only[e2]
 clear e2
 have qt:=row6 gt
 have l0:=hx2.load hw hld0
 (repeat refine EvC.seq ?_);refine EvC.reg ?_;simp (disch:=first|omega|rfl) only[sB,dAlloc,Nat.reduceEqDiff,Nat.reduceAdd,one,reduceCtorEq,Int.reduceToNat,z0g,ld23,ld25,zr25,st25,qt,l0,iz23,Nat.zero_mul]
 obtain⟨H3,e3,hx3,gx,hn3,hw3⟩:=z0r hw2 (.row zero6 25) (.row (six x a1 c1) 25)
 simp only[e3]
 clear e3
 have qt3:=row6 (hx3.get hw2 gt)
 have l1:=(hx2.trans hx3).load hw hld1
 (repeat refine EvC.seq ?_);refine EvC.reg ?_;simp (disch:=first|omega|rfl) only[sB,dAlloc,Nat.reduceEqDiff,Nat.reduceAdd,one,reduceCtorEq,Int.reduceToNat,z0g,ld23,ld25,zr25,st25,qt3,l1,iz23,Nat.one_mul]
 obtain⟨H4,e4,hx4,gy,hn4,hw4⟩:=z0r hw3 (.row zero6 25) (.row (six y a2 c2) 25)
 simp only[e4]
 clear e4
 have hx34:=hx3.trans hx4
 have gx:=hx4.get hw3 gx
 have gt:=hx34.get hw2 gt
 have gq:=hx34.get hw2 gq
 have hx:=hx2.trans hx34
 have qy:=row6 gy
 (repeat refine EvC.seq ?_)
 refine EvC.meet (fun st=>∃tm G,st=⟨tm,[],G⟩∧tm.get 1=some (.pointer (some ⟨H.next,0,none⟩))∧tm.get 2=some (.pointer (some ⟨H.next+1,0,none⟩))∧tm.get 4=some (.pointer (some ⟨H2.next,0,none⟩))∧tm.get 5=some (.pointer (some ⟨H3.next,0,none⟩)) ∧
  tm.get 27=some (.bool (decide (isNum y∨(x.kind≠2∧x.kind≠1))))∧G.get H.next=some (.row (six t (some ⟨b,o,none⟩) c) 25)∧G.get (H.next+1)=some (.row zero8 30)∧G.get H2.next=some (.row (six x a1 c1) 25)∧G.get H3.next=some (.row (six y a2 c2) 25)∧HX H G) ?_ ?_
 ·refine EvC.reg ?_;simp (disch:=first|omega|rfl) only[sB,Nat.reduceEqDiff,reduceCtorEq,ld25,cl44,qy]
  refine(zeu (hr1.mono hx hw) hx.wf).mono ?_
  rintro v H5 ⟨rfl,hx5⟩
  have gx5:=hx5.get hx.wf gx
  have qx5:=row6 gx5
  by_cases hn:isNum y
  ·have hd:decide (isNum y)=true:=decide_eq_true hn
   have hdd:decide (isNum y∨(x.kind≠2∧x.kind≠1))=true:=decide_eq_true (.inl hn)
   try simp (disch:=first|omega|rfl) only[sB,Nat.reduceEqDiff,reduceCtorEq,hd]
   exact⟨_,_,rfl,(by simp only[sG,Nat.reduceEqDiff,reduceCtorEq]),(by simp only[sG,Nat.reduceEqDiff,reduceCtorEq]),(by simp only[sG,Nat.reduceEqDiff,reduceCtorEq]),(by simp only[sG,Nat.reduceEqDiff,reduceCtorEq]),by rw[hdd];first|(simp only[sG,Nat.reduceEqDiff,reduceCtorEq];rfl)|simp only[sG,Nat.reduceEqDiff,reduceCtorEq],hx5.get hx.wf gt,hx5.get hx.wf gq,gx5,hx5.get hx.wf gy,hx.trans hx5⟩
  have hd:decide (isNum y)=false:=decide_eq_false hn
  by_cases x2:x.kind=2
  ·have hdd:decide (isNum y∨(x.kind≠2∧x.kind≠1))=false:=decide_eq_false fun h=>by rcases h with h|h;exact hn h;exact h.1 x2
   try simp (disch:=first|omega|rfl) only[sB,Nat.reduceEqDiff,reduceCtorEq,z0f,ld3,hd,qx5,z1h x2,Bool.false_eq_true]
   exact⟨_,_,rfl,(by simp only[sG,Nat.reduceEqDiff,reduceCtorEq]),(by simp only[sG,Nat.reduceEqDiff,reduceCtorEq]),(by simp only[sG,Nat.reduceEqDiff,reduceCtorEq]),(by simp only[sG,Nat.reduceEqDiff,reduceCtorEq]),by rw[hdd];first|(simp only[sG,Nat.reduceEqDiff,reduceCtorEq];rfl)|simp only[sG,Nat.reduceEqDiff,reduceCtorEq],hx5.get hx.wf gt,hx5.get hx.wf gq,gx5,hx5.get hx.wf gy,hx.trans hx5⟩
  by_cases x1:x.kind=1
  ·have hdd:decide (isNum y∨(x.kind≠2∧x.kind≠1))=false:=decide_eq_false fun h=>by rcases h with h|h;exact hn h;exact h.2 x1
   try simp (disch:=first|omega|rfl) only[sB,Nat.reduceEqDiff,reduceCtorEq,z0f,ld3,hd,qx5,z1w x2,z1h x1,Bool.false_eq_true]
   exact⟨_,_,rfl,(by simp only[sG,Nat.reduceEqDiff,reduceCtorEq]),(by simp only[sG,Nat.reduceEqDiff,reduceCtorEq]),(by simp only[sG,Nat.reduceEqDiff,reduceCtorEq]),(by simp only[sG,Nat.reduceEqDiff,reduceCtorEq]),by rw[hdd];first|(simp only[sG,Nat.reduceEqDiff,reduceCtorEq];rfl)|simp only[sG,Nat.reduceEqDiff,reduceCtorEq],hx5.get hx.wf gt,hx5.get hx.wf gq,gx5,hx5.get hx.wf gy,hx.trans hx5⟩
  ·have hdd:decide (isNum y∨(x.kind≠2∧x.kind≠1))=true:=decide_eq_true (.inr ⟨x2,x1⟩)
   try simp (disch:=first|omega|rfl) only[sB,Nat.reduceEqDiff,reduceCtorEq,z0f,ld3,hd,qx5,z1w x2,z1w x1,Bool.false_eq_true]
   exact⟨_,_,rfl,(by simp only[sG,Nat.reduceEqDiff,reduceCtorEq]),(by simp only[sG,Nat.reduceEqDiff,reduceCtorEq]),(by simp only[sG,Nat.reduceEqDiff,reduceCtorEq]),(by simp only[sG,Nat.reduceEqDiff,reduceCtorEq]),by rw[hdd];first|(simp only[sG,Nat.reduceEqDiff,reduceCtorEq];rfl)|simp only[sG,Nat.reduceEqDiff,reduceCtorEq],hx5.get hx.wf gt,hx5.get hx.wf gq,gx5,hx5.get hx.wf gy,hx.trans hx5⟩
 clear hw4 hw3 hx3 hx4 hx34 hn3 hn4 qt qt3 qy l0 l1 gt gq gx gy hx
 rintro st ⟨tm,G,rfl,t1,t2,t4,t5,tc,gt,gq,gx,gy,hx⟩
 have hwG:=hx.wf
 have qx:=row6 gx
 have qy:=row6 gy
 have qt:=row6 gt
 have lq:=hwG _ _ gq
 have nG:=hx.next
 simp only[z00]
 by_cases hbad:isNum y∨(x.kind≠2∧x.kind≠1)
 ·have hd:=decide_eq_true hbad
  have hwn:withinF (bodyF m) t=none:=by unfold withinF;rw[ex,ey,if_pos hbad]
  refine EvC.condT (by simp (disch:=first|omega|rfl) only[sA,tc,hd]) ?_;(try refine EvC.skip ?_);(try simp only[z00,z01])
  repeat' (first|refine EvC.seq ?_|(refine EvC.ret ?_;try simp only[z05,z03])|(refine EvC.reg ?_;simp (disch:=first|omega|rfl) only[sB,Nat.reduceEqDiff,Nat.reduceAdd,Value.cells,one,layC,bd30,st30,t2,gq]))
  refine z0b rfl (by simp only[sB,Nat.reduceEqDiff,t2];rfl) (by simp only[sB,Nat.reduceAdd,cutC,ld30];rfl) (by simp only[sB,Nat.reduceEqDiff];rfl) ⟨hx.pt (by omega) gq _,_,zeroB,by rw[hwn];rfl,OB.nil (by decide),fun b h=>by rw[hwn] at h;cases h⟩
 have hd:=decide_eq_false hbad
 refine EvC.condF (by simp (disch:=first|omega|rfl) only[sA,tc,hd]) ?_;(try refine EvC.skip ?_);(try simp only[z00,z01])
 clear hd tc
 by_cases hcl:x.kind=1∨y.kind=1
 ·have hwn:withinF (bodyF m) t=some (callB t):=by unfold withinF;rw[ex,ey,if_neg hbad,if_pos hcl]
  (repeat refine EvC.seq ?_)
  refine EvC.meet (fun st=>∃tm',st=⟨tm',[],G⟩∧tm'.get 1=some (.pointer (some ⟨H.next,0,none⟩))∧tm'.get 2=some (.pointer (some ⟨H.next+1,0,none⟩))∧tm'.get 36=some (.bool true)) ?_ ?_
  ·by_cases x1:x.kind=1
   ·refine EvC.reg ?_;simp (disch:=first|omega|rfl) only[sB,Nat.reduceEqDiff,z0f,ld3,t4,qx,z0i x1]
    exact⟨_,rfl,(by simp only[sG,Nat.reduceEqDiff,t1]),(by simp only[sG,Nat.reduceEqDiff,t2]),by first|(simp only[sG,Nat.reduceEqDiff];rfl)|simp only[sG,Nat.reduceEqDiff]⟩
   ·have y1:=hcl.resolve_left x1
    refine EvC.reg ?_;simp (disch:=first|omega|rfl) only[sB,Nat.reduceEqDiff,z0f,ld3,t4,t5,qx,qy,z0j x1,z0i y1,Bool.false_eq_true]
    exact⟨_,rfl,(by simp only[sG,Nat.reduceEqDiff,t1]),(by simp only[sG,Nat.reduceEqDiff,t2]),by first|(simp only[sG,Nat.reduceEqDiff];rfl)|simp only[sG,Nat.reduceEqDiff]⟩
  rintro st ⟨tm,rfl,t1,t2,t36⟩
  simp only[z00]
  refine EvC.condT (by simp (disch:=first|omega|rfl) only[sA,t36]) ?_;(try refine EvC.skip ?_);(try simp only[z00,z01])
  (repeat refine EvC.seq ?_);refine EvC.reg ?_;simp (disch:=first|omega|rfl) only[sB,Nat.reduceEqDiff,ld25,cl70,t1,qt]
  refine(zgx (r0.mono hx hw) hc hwG).mono ?_
  rintro v H5 ⟨hx5,out,rfl,hob⟩
  obtain⟨ta,tc,sa,sc,rfl⟩:=hob.rep.eight
  have gq5:=hx5.get hwG gq
  have n5:=hx5.next
  repeat' (first|(refine EvC.ret ?_;try simp only[z05,z03])|(refine z0k ?_;simp (disch:=first|omega|rfl) only[sB,Nat.reduceAdd,one,st30,t2,gq5]))
  refine z0b rfl (by simp only[sB,Nat.reduceEqDiff,t2];rfl) (by simp only[sB,Nat.reduceAdd,cutC,ld30];rfl) (by simp only[sB,Nat.reduceEqDiff];rfl) ⟨(hx.trans hx5).pt (by omega) gq5 _,_,callB t,by rw[hwn];rfl,hob.to (fun n hn hl=>⟨by have:=hn.1;rw[get_put,if_neg (by omega)],by rw[z06];exact hl⟩) fun n hn=>⟨by have:=hn.1;omega,by rw[z06];exact hn.2⟩,fun b h=>by rw[hwn] at h;cases h;rfl⟩
 have x1:¬x.kind=1:=fun h=>hcl (.inl h)
 have y1:¬y.kind=1:=fun h=>hcl (.inr h)
 have hwn:withinF (bodyF m) t=(bodyF m y).map fun b=>.mk 7 x [b]:=by unfold withinF;rw[ex,ey,if_neg hbad,if_neg hcl]
 have hx2k:x.kind=2:=by
  by_cases h:x.kind=2
  ·exact h
  ·exact absurd (.inr ⟨h,x1⟩) hbad
 have hxa:x.args=[]:=by
  have k:=z2t (z0h.1 hcx).2.node
  exact(z2u k.2.2.1).2.2.2.2 (by omega)
 (repeat refine EvC.seq ?_);refine EvC.reg ?_;simp (disch:=first|omega|rfl) only[sB,Nat.reduceEqDiff,z0f,ld3,t4,t5,qx,qy,z0j x1,z0j y1,Bool.false_eq_true]
 refine EvC.condF (by simp (disch:=first|omega|rfl) only[sB,Nat.reduceEqDiff]) ?_;(try refine EvC.skip ?_);(try simp only[z00,z01])
 (repeat refine EvC.seq ?_);refine EvC.reg ?_;simp (disch:=first|omega|rfl) only[sB,Nat.reduceEqDiff,ld25,cl45,t5,qy]
 refine(hb y _ G (by omega) (hr1.mono hx hw) hcy hwG).mono ?_
 rintro v H5 ⟨hx5,out,bd,rfl,hob,hbd⟩
 obtain⟨ta,tc,sa,sc,rfl⟩:=hob.rep.eight
 have n5:=hx5.next
 try simp (disch:=first|omega|rfl) only[sB,dAlloc,Nat.reduceEqDiff,Nat.reduceAdd,one,zr30,st30]
 obtain⟨H6,e6,hx6,g6,hn6,hw6⟩:=z0r hx5.wf (.row zero8 30) (.row (eightT bd.kind bd.term ta tc sa bd.sub.length sc) 30)
 simp only[e6]
 clear e6
 have hxf:=(hx.trans hx5).trans hx6
 have hx56:=hx5.trans hx6
 have q6:=row8 g6
 have qx6:=row6 (hx56.get hwG gx)
 have gq6:=hx56.get hwG gq
 have lq6:=hw6 _ _ gq6
 (repeat refine EvC.seq ?_);refine EvC.drw [([(0,0)],some 1),([(2,0),(3,0),(4,1)],some 6),([(5,0),(7,2)],none)] (by kernel_rfl) ?_;simp (disch:=first|omega|rfl) only[sD,sB,Nat.reduceEqDiff,Nat.reduceAdd,reduceCtorEq,ld25,cl6,isAlloc,isRead,t4,qx6]
 have hxb:HX H6 ⟨H6.next+8,H6.t⟩:=(HX.refl hw6).bump 8
 refine(z58 ((hr0.mono hxf hw).mono hxb hw6) (few6 hcx) hxb.wf).mono ?_
 rintro v H7 ⟨hx7,outx,rfl,hot⟩
 obtain⟨a7,c7,cells7,rfl,-⟩:=hot.rep.six
 have n7:H6.next+8≤H7.next:=hx7.next
 have hx67:=hxb.trans hx7
 have q67:=row8 (hx67.get hw6 g6)
 obtain⟨H8,e8⟩:∃H8,H7.put (H6.next+3) (some (.row (eightT bd.kind bd.term ta tc sa bd.sub.length sc) 30))=H8:=⟨_,rfl⟩
 have hx8:HX H6 H8:=by rw[←e8];exact hx67.put (by omega) (by omega) _
 have n8:H8.next=H7.next:=by rw[←e8];rfl
 have g8:H8.get (H6.next+3)=some (.row (eightT bd.kind bd.term ta tc sa bd.sub.length sc) 30):=by rw[←e8,get_put,if_pos rfl]
 have gq8:=hx8.get hw6 gq6
 repeat' (first|(refine EvC.ret ?_)|(refine z0n ?_;simp (disch:=first|omega|rfl) only[sV,sD,sB,Nat.reduceEqDiff,Nat.reduceAdd,Value.cells,one,reduceCtorEq,Nat.reduceLeDiff,layC,bd30,st30,ld30,zga,t2,q6,q67,e8,gq8,isAlloc,isRead,dalloc]))
 have hfin:=(hxf.trans hx8).pt (i:=H.next+1) (by omega) gq8 (some (.row (eightT 7 x a7 c7 (some ⟨H6.next+3,0,none⟩) 1 1) 30))
 have hob8:OB H8 30 25 (Rg G.next H5.next) bd (eightT bd.kind bd.term ta tc sa bd.sub.length sc):=((hob.keep hx6).keep hx8)
 have hobf:OB (H8.put (H.next+1) (some (.row (eightT 7 x a7 c7 (some ⟨H6.next+3,0,none⟩) 1 1) 30))) 30 25 (Rg H.next H8.next) (.mk 7 x [bd]) (eightT 7 x a7 c7 (some ⟨H6.next+3,0,none⟩) 1 1):=by
  have h1:OBL H8 30 25 (fun n=>Rg H.next H8.next n∧n≠H.next+1) [bd] (some ⟨H6.next+3,0,none⟩) 1:=OBL.one g8 hob8 hx8.wf ⟨⟨by omega,by omega⟩,by omega⟩ (fun n hn=>⟨⟨by have:=hn.1;omega,by have:=hn.2;omega⟩,by have:=hn.1;omega⟩) (fun h=>by have:=h.2;omega)
  exact OBL.mk (k:=7) (t:=x) (ts:=six x a7 c7) (h1.to (fun n hn hl=>⟨by rw[get_put,if_neg hn.2],by rw[z06];exact hl⟩) fun n hn=>hn.1) (by decide) (repX hot.rep hxa) hxa
 cases hby:bodyF m y with
 |none =>
  rw[hby] at hwn
  refine z0b rfl (by simp only[sB,Nat.reduceEqDiff,t2];rfl) (by simp only[sB,Nat.reduceAdd,cutC,ld30];rfl) (by simp only[sB,Nat.reduceEqDiff];rfl) ⟨hfin,_,.mk 7 x [bd],by rw[hwn];rfl,hobf,fun b h=>by rw[hwn] at h;cases h⟩
 |some bd' =>
  rw[hby] at hwn
  obtain rfl:=hbd bd' hby
  refine z0b rfl (by simp only[sB,Nat.reduceEqDiff,t2];rfl) (by simp only[sB,Nat.reduceAdd,cutC,ld30];rfl) (by simp only[sB,Nat.reduceEqDiff];rfl) ⟨hfin,_,.mk 7 x [bd],by rw[hwn];rfl,hobf,fun b h=>by rw[hwn] at h;cases h;rfl⟩
set_option maxHeartbeats 16000000 in
theorem zl5 {m:Nat}(hb:RBodyP m) {t:Tm}{cs:List Value}{H:Heap}(hs:SizeOf.sizeOf t < m+1) (r:RepT H t cs) (hc:checkS t=0) (hw:H.wf) :
  EvF Tryz.prog okT 45 [.agg ⟨cs⟩] H (RBEnd H (bodyF (m+1) t)):=by
 have r0:=r
 have hf:=(z0h.1 hc).2
 have hfew:=z45 hf
 have hlf:∀{u:Tm},u∈t.args→SizeOf.sizeOf u < m∧checkS u=0:=fun hu=>⟨by have:=z0d hu;omega,z0s hc hu⟩
 obtain⟨a,c,cells,rfl,-,-,-,-,-,rl⟩:=r.six
 refine EvF.enter rfl Tryz.func45 (by decide) rfl ?_
 (repeat refine EvC.seq ?_);refine EvC.reg ?_;simp (disch:=first|omega|rfl) only[sB,initTm,dBox,dAlloc,Value.cells,one,zr30]
 obtain⟨H2,e2,hx,gt,gq,hn2,hw2⟩:=new2 hw (.row (six t a c) 25) (.row zero8 30)
 simp only[e2]
 clear e2
 have qt:=row6 gt
 (repeat refine EvC.seq ?_);refine EvC.reg ?_;simp (disch:=first|omega|rfl) only[sB,Nat.reduceEqDiff,reduceCtorEq,ld25,cl44,qt]
 refine(zeu (r0.mono hx hw) hx.wf).mono ?_
 clear qt
 rintro v H3 ⟨rfl,hx3⟩
 replace gt:=hx3.get hx.wf gt
 replace gq:=hx3.get hx.wf gq
 replace hx:=hx.trans hx3
 clear hx3
 have qt:=row6 gt
 have lt:=hx.wf _ _ gq
 by_cases hn:isNum t
 ·have hd:decide (isNum t)=true:=decide_eq_true hn
  have hbd:bodyF (m+1) t=none:=zdg hn
  try simp (disch:=first|omega|rfl) only[]
  refine EvC.condT (by simp (disch:=first|omega|rfl) only[sB,Nat.reduceEqDiff,reduceCtorEq,hd]) ?_;(try refine EvC.skip ?_);(try simp only[z00,z01])
  repeat' (first|refine EvC.seq ?_|(refine EvC.ret ?_;try simp only[z05,z03])|(refine EvC.reg ?_;simp (disch:=first|omega|rfl) only[sB,Nat.reduceEqDiff,Nat.reduceAdd,Value.cells,one,reduceCtorEq,layC,bd30,st30,gq]))
  refine z0b rfl (by simp only[sB,Nat.reduceEqDiff,reduceCtorEq];rfl) (by simp only[sB,Nat.reduceAdd,cutC,ld30];rfl) (by simp only[sB,Nat.reduceEqDiff,reduceCtorEq];rfl) ⟨hx.pt (by omega) gq _,_,zeroB,by rw[hbd];rfl,OB.nil (by decide),fun b h=>by rw[hbd] at h;cases h⟩
 have hd:decide (isNum t)=false:=decide_eq_false hn
 try simp (disch:=first|omega|rfl) only[]
 refine EvC.condF (by simp (disch:=first|omega|rfl) only[sB,Nat.reduceEqDiff,reduceCtorEq,hd]) ?_;(try refine EvC.skip ?_);(try simp only[z00,z01])
 clear hd
 refine EvC.frame (fun tm=>tm.get 1=some (.pointer (some ⟨H.next,0,none⟩))∧tm.get 2=some (.pointer (some ⟨H.next+1,0,none⟩))) ⟨(by simp only[sG,Nat.reduceEqDiff,reduceCtorEq]),(by simp only[sG,Nat.reduceEqDiff,reduceCtorEq])⟩ ?_
 rintro tm ⟨t1,t2⟩
 by_cases k1:t.kind=1
 ·have hbd:bodyF (m+1) t=some (callB t):=by rw[bodyF,if_neg hn,if_pos k1]
  (repeat refine EvC.seq ?_);refine EvC.reg ?_;simp (disch:=first|omega|rfl) only[sB,Nat.reduceEqDiff,z0f,ld3,t1,qt,z0i k1]
  refine EvC.condT (by simp (disch:=first|omega|rfl) only[sB,Nat.reduceEqDiff]) ?_;(try refine EvC.skip ?_);(try simp only[z00,z01])
  (repeat refine EvC.seq ?_);refine EvC.reg ?_;simp (disch:=first|omega|rfl) only[sB,Nat.reduceEqDiff,ld25,cl70,t1,qt]
  refine(zgx (r0.mono hx hw) hc hx.wf).mono ?_
  rintro v H5 ⟨hx5,out,rfl,hob⟩
  obtain⟨ta,tc,sa,sc,rfl⟩:=hob.rep.eight
  have gq5:=hx5.get hx.wf gq
  have n5:=hx5.next
  have nx:=hx.next
  repeat' (first|(refine EvC.ret ?_;try simp only[z05,z03])|(refine z0k ?_;simp (disch:=first|omega|rfl) only[sB,Nat.reduceAdd,one,st30,t2,gq5]))
  refine z0b rfl (by simp only[sB,Nat.reduceEqDiff,t2];rfl) (by simp only[sB,Nat.reduceAdd,cutC,ld30];rfl) (by simp only[sB,Nat.reduceEqDiff];rfl) ⟨(hx.trans hx5).pt (by omega) gq5 _,_,callB t,by rw[hbd];rfl,?_,fun b h=>by rw[hbd] at h;cases h;rfl⟩
  exact hob.to (fun n hn hl=>⟨by have:=hn.1;rw[get_put,if_neg (by omega)],by rw[z06];exact hl⟩) fun n hn=>⟨by have:=hn.1;omega,by rw[z06];exact hn.2⟩
 (repeat refine EvC.seq ?_);refine EvC.reg ?_;simp (disch:=first|omega|rfl) only[sB,Nat.reduceEqDiff,z0f,ld3,t1,qt,z0j k1]
 refine EvC.condF (by simp (disch:=first|omega|rfl) only[sB,Nat.reduceEqDiff]) ?_;(try refine EvC.skip ?_);(try simp only[z00,z01])
 refine EvC.frame (fun tm=>tm.get 1=some (.pointer (some ⟨H.next,0,none⟩))∧tm.get 2=some (.pointer (some ⟨H.next+1,0,none⟩))) ⟨(by simp only[sG,Nat.reduceEqDiff,t1]),(by simp only[sG,Nat.reduceEqDiff,t2])⟩ ?_
 clear t1 t2 tm
 rintro tm ⟨t1,t2⟩
 by_cases ktrue:t.kind=2∧t.name=sTrue
 ·have hbd:bodyF (m+1) t=some (.mk 1 zeroT []):=by rw[bodyF,if_neg hn,if_neg k1,if_pos ktrue]
  (repeat refine EvC.seq ?_);refine EvC.reg ?_;simp (disch:=first|omega|rfl) only[sB,Nat.reduceEqDiff,z0f,ld3,z18,ld9,t1,qt,z0i ktrue.1,z0z,z7k ktrue.2]
  refine EvC.condT (by simp (disch:=first|omega|rfl) only[sB,Nat.reduceEqDiff]) ?_;(try refine EvC.skip ?_);(try simp only[z00,z01])
  have lq:=hx.wf _ _ gq
  repeat' (first|refine EvC.seq ?_|(refine EvC.ret ?_;try simp only[z05,z03])|(refine EvC.reg ?_;simp (disch:=first|omega|rfl) only[sB,Nat.reduceEqDiff,Nat.reduceAdd,Value.cells,one,Nat.reduceLeDiff,layC,bd30,st30,t2,gq]))
  refine z0b rfl (by simp only[sB,Nat.reduceEqDiff,t2];rfl) (by simp only[sB,Nat.reduceAdd,cutC,ld30];rfl) (by simp only[sB,Nat.reduceEqDiff];rfl) ⟨hx.pt (by omega) gq _,_,.mk 1 zeroT [],by rw[hbd];rfl,OB.nil (by decide),fun b h=>by rw[hbd] at h;cases h;rfl⟩
 (repeat refine EvC.seq ?_)
 refine EvC.meet (fun st=>∃tm',st=⟨tm',[],H3⟩∧tm'.get 1=some (.pointer (some ⟨H.next,0,none⟩))∧tm'.get 2=some (.pointer (some ⟨H.next+1,0,none⟩))∧tm'.get 19=some (.bool false)) ?_ ?_
 ·by_cases k2:t.kind=2
  ·have kn:t.name≠sTrue:=fun h=>ktrue ⟨k2,h⟩
   refine EvC.reg ?_;simp (disch:=first|omega|rfl) only[sB,Nat.reduceEqDiff,z0f,ld3,z18,ld9,t1,qt,z0i k2,z0z,za8 kn]
   exact⟨_,rfl,(by simp only[sG,Nat.reduceEqDiff,t1]),(by simp only[sG,Nat.reduceEqDiff,t2]),by first|(simp only[sG,Nat.reduceEqDiff];rfl)|simp only[sG,Nat.reduceEqDiff]⟩
  ·refine EvC.reg ?_;simp (disch:=first|omega|rfl) only[sB,Nat.reduceEqDiff,z0f,ld3,t1,qt,z0j k2,Bool.false_eq_true]
   exact⟨_,rfl,(by simp only[sG,Nat.reduceEqDiff,t1]),(by simp only[sG,Nat.reduceEqDiff,t2]),by first|(simp only[sG,Nat.reduceEqDiff];rfl)|simp only[sG,Nat.reduceEqDiff]⟩
 clear t1 t2 tm
 rintro st ⟨tm,rfl,t1,t2,tc⟩
 simp only[z00]
 refine EvC.condF (by simp (disch:=first|omega|rfl) only[sA,tc]) ?_;(try refine EvC.skip ?_);(try simp only[z00,z01])
 clear tc
 by_cases kexc:t.kind=2∧t.name=sExc
 ·have hbd:bodyF (m+1) t=some (.mk 2 zeroT []):=by rw[bodyF,if_neg hn,if_neg k1,if_neg ktrue,if_pos kexc]
  (repeat refine EvC.seq ?_);refine EvC.reg ?_;simp (disch:=first|omega|rfl) only[sB,Nat.reduceEqDiff,z0f,ld3,z18,ld9,t1,qt,z0i kexc.1,z0z,z7k kexc.2]
  refine EvC.condT (by simp (disch:=first|omega|rfl) only[sB,Nat.reduceEqDiff]) ?_;(try refine EvC.skip ?_);(try simp only[z00,z01])
  have lq:=hx.wf _ _ gq
  repeat' (first|refine EvC.seq ?_|(refine EvC.ret ?_;try simp only[z05,z03])|(refine EvC.reg ?_;simp (disch:=first|omega|rfl) only[sB,Nat.reduceEqDiff,Nat.reduceAdd,Value.cells,one,Nat.reduceLeDiff,layC,bd30,st30,t2,gq]))
  refine z0b rfl (by simp only[sB,Nat.reduceEqDiff,t2];rfl) (by simp only[sB,Nat.reduceAdd,cutC,ld30];rfl) (by simp only[sB,Nat.reduceEqDiff];rfl) ⟨hx.pt (by omega) gq _,_,.mk 2 zeroT [],by rw[hbd];rfl,OB.nil (by decide),fun b h=>by rw[hbd] at h;cases h;rfl⟩
 (repeat refine EvC.seq ?_)
 refine EvC.meet (fun st=>∃tm',st=⟨tm',[],H3⟩∧tm'.get 1=some (.pointer (some ⟨H.next,0,none⟩))∧tm'.get 2=some (.pointer (some ⟨H.next+1,0,none⟩))∧tm'.get 28=some (.bool false)) ?_ ?_
 ·by_cases k2:t.kind=2
  ·have kn:t.name≠sExc:=fun h=>kexc ⟨k2,h⟩
   refine EvC.reg ?_;simp (disch:=first|omega|rfl) only[sB,Nat.reduceEqDiff,z0f,ld3,z18,ld9,t1,qt,z0i k2,z0z,za8 kn]
   exact⟨_,rfl,(by simp only[sG,Nat.reduceEqDiff,t1]),(by simp only[sG,Nat.reduceEqDiff,t2]),by first|(simp only[sG,Nat.reduceEqDiff];rfl)|simp only[sG,Nat.reduceEqDiff]⟩
  ·refine EvC.reg ?_;simp (disch:=first|omega|rfl) only[sB,Nat.reduceEqDiff,z0f,ld3,t1,qt,z0j k2,Bool.false_eq_true]
   exact⟨_,rfl,(by simp only[sG,Nat.reduceEqDiff,t1]),(by simp only[sG,Nat.reduceEqDiff,t2]),by first|(simp only[sG,Nat.reduceEqDiff];rfl)|simp only[sG,Nat.reduceEqDiff]⟩
 clear t1 t2 tm
 rintro st ⟨tm,rfl,t1,t2,tc⟩
 simp only[z00]
 refine EvC.condF (by simp (disch:=first|omega|rfl) only[sA,tc]) ?_;(try refine EvC.skip ?_);(try simp only[z00,z01])
 clear tc
 (repeat refine EvC.seq ?_);refine EvC.reg ?_;simp (disch:=first|omega|rfl) only[sB,ld25,cl42,t1,qt]
 refine(z7n (s:=sCol) (r0.mono hx hw) hx.wf).mono ?_
 clear qt
 rintro v G1 ⟨rfl,hx3⟩
 replace gt:=hx3.get hx.wf gt
 replace gq:=hx3.get hx.wf gq
 replace hx:=hx.trans hx3
 clear hx3
 have qt:=row6 gt
 by_cases hF:isF t sCol
 ·have hd:decide (isF t sCol)=true:=decide_eq_true hF
  have hbd:bodyF (m+1) t=withinF (bodyF m) t:=by rw[bodyF,if_neg hn,if_neg k1,if_neg ktrue,if_neg kexc,if_pos hF]
  try simp (disch:=first|omega|rfl) only[]
  refine EvC.condT (by simp (disch:=first|omega|rfl) only[sB,Nat.reduceEqDiff,hd]) ?_;(try refine EvC.skip ?_);(try simp only[z00,z01])
  (repeat refine EvC.seq ?_);refine EvC.reg ?_;simp (disch:=first|omega|rfl) only[sB,Nat.reduceEqDiff,ld25,cl71,t1,qt]
  refine(zic hb hs (r0.mono hx hw) hF.2.2 hc hx.wf).mono ?_
  rintro v H5 ⟨hx5,out,bd,rfl,hob,hbdd⟩
  obtain⟨ta,tc,sa,sc,rfl⟩:=hob.rep.eight
  have gq5:=hx5.get hx.wf gq
  have n5:=hx5.next
  have nx:=hx.next
  have lq:=hx.wf _ _ gq
  repeat' (first|(refine EvC.ret ?_;try simp only[z05,z03])|(refine z0k ?_;simp (disch:=first|omega|rfl) only[sB,Nat.reduceEqDiff,Nat.reduceAdd,one,st30,t2,gq5]))
  refine z0b rfl (by simp only[sB,Nat.reduceEqDiff,t2];rfl) (by simp only[sB,Nat.reduceAdd,cutC,ld30];rfl) (by simp only[sB,Nat.reduceEqDiff];rfl) ⟨(hx.trans hx5).pt (by omega) gq5 _,_,bd,by rw[hbd],?_,fun b h=>hbdd b (by rw[←hbd];exact h)⟩
  exact hob.to (fun n hn hl=>⟨by have:=hn.1;rw[get_put,if_neg (by omega)],by rw[z06];exact hl⟩) fun n hn=>⟨by have:=hn.1;omega,by rw[z06];exact hn.2⟩
 have fcol:=hF
 clear hF
 have hd:decide (isF t sCol)=false:=decide_eq_false fcol
 try simp (disch:=first|omega|rfl) only[]
 refine EvC.condF (by simp (disch:=first|omega|rfl) only[sB,Nat.reduceEqDiff,hd]) ?_;(try refine EvC.skip ?_);(try simp only[z00,z01])
 clear hd
 refine EvC.frame (fun tm=>tm.get 1=some (.pointer (some ⟨H.next,0,none⟩))∧tm.get 2=some (.pointer (some ⟨H.next+1,0,none⟩))) ⟨(by simp only[sG,Nat.reduceEqDiff,t1]),(by simp only[sG,Nat.reduceEqDiff,t2])⟩ ?_
 clear t1 t2 tm
 rintro tm ⟨t1,t2⟩
 (repeat refine EvC.seq ?_);refine EvC.reg ?_;simp (disch:=first|omega|rfl) only[sB,ld25,cl42,t1,qt]
 refine(z7n (s:=sCma) (r0.mono hx hw) hx.wf).mono ?_
 clear qt
 rintro v G2 ⟨rfl,hx3⟩
 replace gt:=hx3.get hx.wf gt
 replace gq:=hx3.get hx.wf gq
 replace hx:=hx.trans hx3
 clear hx3
 have qt:=row6 gt
 by_cases hF:isF t sCma
 ·have hd:decide (isF t sCma)=true:=decide_eq_true hF
  have hbd:bodyF (m+1) t=subBF (bodyF m) 4 t.args:=by rw[bodyF,if_neg hn,if_neg k1,if_neg ktrue,if_neg kexc,if_neg fcol,if_pos hF]
  try simp (disch:=first|omega|rfl) only[]
  refine EvC.condT (by simp (disch:=first|omega|rfl) only[sB,Nat.reduceEqDiff,hd]) ?_;(try refine EvC.skip ?_);(try simp only[z00,z01])
  (repeat refine EvC.seq ?_);refine EvC.reg ?_;simp (disch:=first|omega|rfl) only[sB,Nat.reduceEqDiff,z0g,ld23,cl72,t1,qt]
  refine(z6r hb (k:=4) (by decide) (rl.mono hx hw) hfew (fun u hu=>hlf hu) hx.wf).mono ?_
  rintro v H5 ⟨hx5,out,bd,rfl,hob,hbdd⟩
  obtain⟨ta,tc,sa,sc,rfl⟩:=hob.rep.eight
  have gq5:=hx5.get hx.wf gq
  have n5:=hx5.next
  have nx:=hx.next
  have lq:=hx.wf _ _ gq
  repeat' (first|(refine EvC.ret ?_;try simp only[z05,z03])|(refine z0k ?_;simp (disch:=first|omega|rfl) only[sB,Nat.reduceEqDiff,Nat.reduceAdd,one,st30,t2,gq5]))
  refine z0b rfl (by simp only[sB,Nat.reduceEqDiff,t2];rfl) (by simp only[sB,Nat.reduceAdd,cutC,ld30];rfl) (by simp only[sB,Nat.reduceEqDiff];rfl) ⟨(hx.trans hx5).pt (by omega) gq5 _,_,bd,by rw[hbd],?_,fun b h=>hbdd b (by rw[←hbd];exact h)⟩
  exact hob.to (fun n hn hl=>⟨by have:=hn.1;rw[get_put,if_neg (by omega)],by rw[z06];exact hl⟩) fun n hn=>⟨by have:=hn.1;omega,by rw[z06];exact hn.2⟩
 have fcma:=hF
 clear hF
 have hd:decide (isF t sCma)=false:=decide_eq_false fcma
 try simp (disch:=first|omega|rfl) only[]
 refine EvC.condF (by simp (disch:=first|omega|rfl) only[sB,Nat.reduceEqDiff,hd]) ?_;(try refine EvC.skip ?_);(try simp only[z00,z01])
 clear hd
 refine EvC.frame (fun tm=>tm.get 1=some (.pointer (some ⟨H.next,0,none⟩))∧tm.get 2=some (.pointer (some ⟨H.next+1,0,none⟩))) ⟨(by simp only[sG,Nat.reduceEqDiff,t1]),(by simp only[sG,Nat.reduceEqDiff,t2])⟩ ?_
 clear t1 t2 tm
 rintro tm ⟨t1,t2⟩
 (repeat refine EvC.seq ?_);refine EvC.reg ?_;simp (disch:=first|omega|rfl) only[sB,ld25,cl42,t1,qt]
 refine(z7n (s:=sArr) (r0.mono hx hw) hx.wf).mono ?_
 clear qt
 rintro v G3 ⟨rfl,hx3⟩
 replace gt:=hx3.get hx.wf gt
 replace gq:=hx3.get hx.wf gq
 replace hx:=hx.trans hx3
 clear hx3
 have qt:=row6 gt
 by_cases hF:isF t sArr
 ·have hd:decide (isF t sArr)=true:=decide_eq_true hF
  have hbd:bodyF (m+1) t=subBF (bodyF m) 6 t.args:=by rw[bodyF,if_neg hn,if_neg k1,if_neg ktrue,if_neg kexc,if_neg fcol,if_neg fcma,if_pos hF]
  try simp (disch:=first|omega|rfl) only[]
  refine EvC.condT (by simp (disch:=first|omega|rfl) only[sB,Nat.reduceEqDiff,hd]) ?_;(try refine EvC.skip ?_);(try simp only[z00,z01])
  (repeat refine EvC.seq ?_);refine EvC.reg ?_;simp (disch:=first|omega|rfl) only[sB,Nat.reduceEqDiff,z0g,ld23,cl72,t1,qt]
  refine(z6r hb (k:=6) (by decide) (rl.mono hx hw) hfew (fun u hu=>hlf hu) hx.wf).mono ?_
  rintro v H5 ⟨hx5,out,bd,rfl,hob,hbdd⟩
  obtain⟨ta,tc,sa,sc,rfl⟩:=hob.rep.eight
  have gq5:=hx5.get hx.wf gq
  have n5:=hx5.next
  have nx:=hx.next
  have lq:=hx.wf _ _ gq
  repeat' (first|(refine EvC.ret ?_;try simp only[z05,z03])|(refine z0k ?_;simp (disch:=first|omega|rfl) only[sB,Nat.reduceEqDiff,Nat.reduceAdd,one,st30,t2,gq5]))
  refine z0b rfl (by simp only[sB,Nat.reduceEqDiff,t2];rfl) (by simp only[sB,Nat.reduceAdd,cutC,ld30];rfl) (by simp only[sB,Nat.reduceEqDiff];rfl) ⟨(hx.trans hx5).pt (by omega) gq5 _,_,bd,by rw[hbd],?_,fun b h=>hbdd b (by rw[←hbd];exact h)⟩
  exact hob.to (fun n hn hl=>⟨by have:=hn.1;rw[get_put,if_neg (by omega)],by rw[z06];exact hl⟩) fun n hn=>⟨by have:=hn.1;omega,by rw[z06];exact hn.2⟩
 have farr:=hF
 clear hF
 have hd:decide (isF t sArr)=false:=decide_eq_false farr
 try simp (disch:=first|omega|rfl) only[]
 refine EvC.condF (by simp (disch:=first|omega|rfl) only[sB,Nat.reduceEqDiff,hd]) ?_;(try refine EvC.skip ?_);(try simp only[z00,z01])
 clear hd
 refine EvC.frame (fun tm=>tm.get 1=some (.pointer (some ⟨H.next,0,none⟩))∧tm.get 2=some (.pointer (some ⟨H.next+1,0,none⟩))) ⟨(by simp only[sG,Nat.reduceEqDiff,t1]),(by simp only[sG,Nat.reduceEqDiff,t2])⟩ ?_
 clear t1 t2 tm
 rintro tm ⟨t1,t2⟩
 (repeat refine EvC.seq ?_)
 refine EvC.meet (fun st=>∃tm' G',st=⟨tm',[],G'⟩∧tm'.get 1=some (.pointer (some ⟨H.next,0,none⟩))∧tm'.get 2=some (.pointer (some ⟨H.next+1,0,none⟩))∧tm'.get 58=some (.bool (decide (isF t sSem∧isF (t.at 0) sArr)))∧G'.get H.next=some (.row (six t a c) 25)∧G'.get (H.next+1)=some (.row zero8 30)∧HX H G') ?_ ?_
 ·refine EvC.reg ?_;simp (disch:=first|omega|rfl) only[sB,Nat.reduceEqDiff,ld25,cl42,t1,qt]
  refine(z7n (s:=sSem) (r0.mono hx hw) hx.wf).mono ?_
  clear qt
  rintro v H3 ⟨rfl,hx3⟩
  replace gt:=hx3.get hx.wf gt
  replace gq:=hx3.get hx.wf gq
  replace hx:=hx.trans hx3
  clear hx3
  have qt:=row6 gt
  by_cases hse:isF t sSem
  rotate_left
  ·have fsa:decide (isF t sSem∧isF (t.at 0) sArr)=false:=decide_eq_false fun h=>hse h.1
   have hd:decide (isF t sSem)=false:=decide_eq_false hse
   try simp (disch:=first|omega|rfl) only[sB,Nat.reduceEqDiff,hd,Bool.false_eq_true]
   exact⟨_,_,rfl,(by simp only[sG,Nat.reduceEqDiff,t1]),(by simp only[sG,Nat.reduceEqDiff,t2]),by rw[fsa];first|(simp only[sG,Nat.reduceEqDiff];rfl)|simp only[sG,Nat.reduceEqDiff],gt,gq,hx⟩
  have hd:decide (isF t sSem)=true:=decide_eq_true hse
  obtain⟨x,y,hxy⟩:∃x y,t.args=[x,y]:=by
   match hl:t.args,hse.2.2 with
   |[x,y],_=>exact⟨x,y,rfl⟩
  have ex:t.at 0=x:=by unfold Tm.at;rw[hxy];rfl
  have hl2:t.args.length=2:=hse.2.2
  have i0:t.args[0]'(by omega)=x:=by simp [hxy]
  obtain⟨b,o,a1,c1,rfl,hld0,hr0⟩:=rl.el (i:=0) (by omega)
  rw[i0] at hld0 hr0
  simp only[Nat.zero_mul,Nat.add_zero,Nat.one_mul] at hld0
  have l0:=hx.load hw hld0
  try simp (disch:=first|omega|rfl) only[sB,Nat.reduceEqDiff,Int.reduceToNat,ld25,cl42,z0g,ld23,hd,t1,qt,l0,iz23,Nat.zero_mul]
  refine(z7n (s:=sArr) (hr0.mono hx hw) hx.wf).mono ?_
  clear qt
  rintro v H4 ⟨rfl,hx3⟩
  have hde:decide (isF t sSem∧isF (t.at 0) sArr)=decide (isF x sArr):=by rw[ex];simp [hse]
  try simp (disch:=first|omega|rfl) only[]
  exact⟨_,_,rfl,(by simp only[sG,Nat.reduceEqDiff,t1]),(by simp only[sG,Nat.reduceEqDiff,t2]),by rw[hde];first|(simp only[sG,Nat.reduceEqDiff];rfl)|simp only[sG,Nat.reduceEqDiff],hx3.get hx.wf gt,hx3.get hx.wf gq,hx.trans hx3⟩
 clear t1 t2 tm gt gq hx qt
 rintro st ⟨tm,G,rfl,t1,t2,tc,gt,gq,hx⟩
 simp only[z00]
 have qt:=row6 gt
 by_cases fsa:isF t sSem∧isF (t.at 0) sArr
 ·have hd:decide (isF t sSem∧isF (t.at 0) sArr)=true:=decide_eq_true fsa
  obtain⟨x,y,hxy⟩:∃x y,t.args=[x,y]:=by
   match hl:t.args,fsa.1.2.2 with
   |[x,y],_=>exact⟨x,y,rfl⟩
  have ex:t.at 0=x:=by unfold Tm.at;rw[hxy];rfl
  have ey:t.at 1=y:=by unfold Tm.at;rw[hxy];rfl
  have hl2:t.args.length=2:=fsa.1.2.2
  have fx:isF x sArr:=ex ▸ fsa.2
  obtain⟨p,q,hpq⟩:∃p q,x.args=[p,q]:=by
   match hl:x.args,fx.2.2 with
   |[p,q],_=>exact⟨p,q,rfl⟩
  have ep:(t.at 0).at 0=p:=by rw[ex];unfold Tm.at;rw[hpq];rfl
  have eq:(t.at 0).at 1=q:=by rw[ex];unfold Tm.at;rw[hpq];rfl
  have hx2:x.args.length=2:=fx.2.2
  have i0:t.args[0]'(by omega)=x:=by simp [hxy]
  have i1:t.args[1]'(by omega)=y:=by simp [hxy]
  have j0:x.args[0]'(by omega)=p:=by simp [hpq]
  have j1:x.args[1]'(by omega)=q:=by simp [hpq]
  obtain⟨b,o,a1,c1,rfl,hld0,hr0⟩:=rl.el (i:=0) (by omega)
  obtain⟨b',o',a2,c2,e2,hld1,hr1⟩:=rl.el (i:=1) (by omega)
  cases e2
  rw[i0] at hld0 hr0
  rw[i1] at hld1 hr1
  obtain⟨ax,cx,cellsx,ee,-,-,-,-,-,rlx⟩:=hr0.six
  obtain⟨-,-,-,-,-,rfl,rfl⟩:=z47 ee
  obtain⟨bx,ox,a3,c3,rfl,hld2,hr2⟩:=rlx.el (i:=0) (by omega)
  obtain⟨b'',o'',a4,c4,e4,hld3,hr3⟩:=rlx.el (i:=1) (by omega)
  cases e4
  rw[j0] at hld2 hr2
  rw[j1] at hld3 hr3
  simp only[Nat.zero_mul,Nat.add_zero,Nat.one_mul] at hld0 hld1 hld2 hld3
  have l0:=ldA5 (hx.load hw hld0)
  have l1:=hx.load hw hld1
  have l2:=hx.load hw hld2
  have l3:=hx.load hw hld3
  obtain⟨L,eL⟩:∃L,six p a3 c3++six q a4 c4++six y a2 c2=L:=⟨_,rfl⟩
  obtain⟨Hq,e5⟩:∃Hq,(⟨G.next+24,G.t⟩:Heap).put (G.next+18) (some (.row L 25))=Hq:=⟨_,rfl⟩
  have hxq:HX G Hq:=by rw[←e5];exact(((HX.refl hx.wf).bump 24).put (by omega) (by show _ < G.next+24;omega) _)
  have gL:Hq.get (G.next+18)=some (.row L 25):=by rw[←e5,get_put,if_pos rfl]
  have gq5:=hxq.get hx.wf gq
  have gt5:=hxq.get hx.wf gt
  have hxf:=hx.trans hxq
  have rl3:RepL Hq [p,q,y] (some ⟨G.next+18,0,none⟩) 3 (fun i=>(L.drop (i*6)).take 6):=RepL.of_row gL (fun i hi=>rfl) (fun i u hu=>by
    match i,hu with
    |0,hu=>cases hu;rw[←eL];exact hr2.mono hxf hw
    |1,hu=>cases hu;rw[←eL];exact hr3.mono hxf hw
    |2,hu=>cases hu;rw[←eL];exact hr1.mono hxf hw) (Nat.le_refl _) (by decide)
  have hmx:x∈t.args:=by rw[hxy];simp
  have hmy:y∈t.args:=by rw[hxy];simp
  have hcx:=z0s hc hmx
  have hxl:=z0d hmx
  have hcon:=z6r hb (k:=6) (by decide) rl3 (by show 3≤64;decide) (fun u hu=>by
    have hux:u∈x.args∨u=y:=by
     rw[hpq]
     simp only[List.mem_cons,List.not_mem_nil,or_false] at hu ⊢
     rcases hu with h|h|h
     ·exact .inl (.inl h)
     ·exact .inl (.inr h)
     ·exact .inr h
    rcases hux with hu|rfl
    ·exact⟨by have:=z0d hu;omega,z0s hcx hu⟩
    ·exact hlf hmy) hxq.wf
  have hbd:bodyF (m+1) t=subBF (bodyF m) 6 [p,q,y]:=by rw[bodyF,if_neg hn,if_neg k1,if_neg ktrue,if_neg kexc,if_neg fcol,if_neg fcma,if_neg farr,if_pos fsa,ep,eq,ey]
  have nx:=hx.next
  have lq:=hx.wf _ _ gq
  have eL':=eL
  simp only[six,List.cons_append,List.nil_append] at eL'
  have neq:(H.next+1=G.next+18)=False:=by simp;omega
  have gq5':=gq5
  refine EvC.condT (by simp (disch:=first|omega|rfl) only[sA,tc,hd]) ?_;(try refine EvC.skip ?_);(try simp only[z00,z01])
  clear tc
  (repeat refine EvC.seq ?_);refine EvC.drw [([(0,0),(1,0),(2,0),(3,0),(4,0),(5,0),(6,0),(7,0),(8,0),(9,0),(10,0),(11,0),(12,0),(13,0),(14,0),(15,0),(16,0),(17,0),(18,0)],some 19),([(20,1),(21,1)],some 22),([(23,2)],none)] (by kernel_rfl) ?_;simp (disch:=first|omega|rfl) only[sD,sB,Nat.reduceEqDiff,Nat.reduceAdd,Value.cells,one,reduceCtorEq,Nat.reduceLeDiff,layC,Int.reduceToNat,ld25,z0g,ld23,cl72,zjj,isAlloc,isRead,dalloc,t1,qt,l0,l1,l2,l3,iz23,Nat.zero_mul,Nat.one_mul,eL',e5]
  refine hcon.mono ?_
  rintro v H5 ⟨hx5,out,bd,rfl,hob,hbdd⟩
  obtain⟨ta,tc,sa,sc,rfl⟩:=hob.rep.eight
  have gq5:=hx5.get hxq.wf gq5'
  have n5:=hx5.next
  have nx:=hxf.next
  have lq:=hxq.wf _ _ gq5'
  repeat' (first|(refine EvC.ret ?_;try simp only[z05,z03])|(refine z0n ?_;simp (disch:=first|omega|rfl) only[sD,sB,Nat.reduceEqDiff,Nat.reduceAdd,one,st30,t2,gq5,isAlloc,isRead]))
  refine z0b rfl (by simp only[sB,Nat.reduceEqDiff,t2];rfl) (by simp only[sB,Nat.reduceAdd,cutC,ld30];rfl) (by simp only[sB,Nat.reduceEqDiff];rfl) ⟨(hxf.trans hx5).pt (by omega) gq5 _,_,bd,by rw[hbd],?_,fun b h=>hbdd b (by rw[←hbd];exact h)⟩
  exact hob.to (fun n hn hl=>⟨by have:=hn.1;rw[get_put,if_neg (by omega)],by rw[z06];exact hl⟩) fun n hn=>⟨by have:=hn.1;omega,by rw[z06];exact hn.2⟩
 have hd:decide (isF t sSem∧isF (t.at 0) sArr)=false:=decide_eq_false fsa
 refine EvC.condF (by simp (disch:=first|omega|rfl) only[sA,tc,hd]) ?_;(try refine EvC.skip ?_);(try simp only[z00,z01])
 clear tc hd
 (repeat refine EvC.seq ?_);refine EvC.reg ?_;simp (disch:=first|omega|rfl) only[sB,ld25,cl42,t1,qt]
 refine(z7n (s:=sSem) (r0.mono hx hw) hx.wf).mono ?_
 clear qt
 rintro v G4 ⟨rfl,hx3⟩
 replace gt:=hx3.get hx.wf gt
 replace gq:=hx3.get hx.wf gq
 replace hx:=hx.trans hx3
 clear hx3
 have qt:=row6 gt
 by_cases hF:isF t sSem
 ·have hd:decide (isF t sSem)=true:=decide_eq_true hF
  have hbd:bodyF (m+1) t=subBF (bodyF m) 5 t.args:=by rw[bodyF,if_neg hn,if_neg k1,if_neg ktrue,if_neg kexc,if_neg fcol,if_neg fcma,if_neg farr,if_neg fsa,if_pos hF]
  try simp (disch:=first|omega|rfl) only[]
  refine EvC.condT (by simp (disch:=first|omega|rfl) only[sB,Nat.reduceEqDiff,hd]) ?_;(try refine EvC.skip ?_);(try simp only[z00,z01])
  (repeat refine EvC.seq ?_);refine EvC.reg ?_;simp (disch:=first|omega|rfl) only[sB,Nat.reduceEqDiff,z0g,ld23,cl72,t1,qt]
  refine(z6r hb (k:=5) (by decide) (rl.mono hx hw) hfew (fun u hu=>hlf hu) hx.wf).mono ?_
  rintro v H5 ⟨hx5,out,bd,rfl,hob,hbdd⟩
  obtain⟨ta,tc,sa,sc,rfl⟩:=hob.rep.eight
  have gq5:=hx5.get hx.wf gq
  have n5:=hx5.next
  have nx:=hx.next
  have lq:=hx.wf _ _ gq
  repeat' (first|(refine EvC.ret ?_;try simp only[z05,z03])|(refine z0k ?_;simp (disch:=first|omega|rfl) only[sB,Nat.reduceEqDiff,Nat.reduceAdd,one,st30,t2,gq5]))
  refine z0b rfl (by simp only[sB,Nat.reduceEqDiff,t2];rfl) (by simp only[sB,Nat.reduceAdd,cutC,ld30];rfl) (by simp only[sB,Nat.reduceEqDiff];rfl) ⟨(hx.trans hx5).pt (by omega) gq5 _,_,bd,by rw[hbd],?_,fun b h=>hbdd b (by rw[←hbd];exact h)⟩
  exact hob.to (fun n hn hl=>⟨by have:=hn.1;rw[get_put,if_neg (by omega)],by rw[z06];exact hl⟩) fun n hn=>⟨by have:=hn.1;omega,by rw[z06];exact hn.2⟩
 have fsem:=hF
 clear hF
 have hd:decide (isF t sSem)=false:=decide_eq_false fsem
 try simp (disch:=first|omega|rfl) only[]
 refine EvC.condF (by simp (disch:=first|omega|rfl) only[sB,Nat.reduceEqDiff,hd]) ?_;(try refine EvC.skip ?_);(try simp only[z00,z01])
 clear hd
 refine EvC.frame (fun tm=>tm.get 1=some (.pointer (some ⟨H.next,0,none⟩))∧tm.get 2=some (.pointer (some ⟨H.next+1,0,none⟩))) ⟨(by simp only[sG,Nat.reduceEqDiff,t1]),(by simp only[sG,Nat.reduceEqDiff,t2])⟩ ?_
 clear t1 t2 tm
 rintro tm ⟨t1,t2⟩
 have hbd:bodyF (m+1) t=some (.mk 3 t []):=by rw[bodyF,if_neg hn,if_neg k1,if_neg ktrue,if_neg kexc,if_neg fcol,if_neg fcma,if_neg farr,if_neg fsa,if_neg fsem]
 (repeat refine EvC.seq ?_);refine EvC.reg ?_;simp (disch:=first|omega|rfl) only[sB,Nat.reduceEqDiff,Nat.reduceAdd,Value.cells,one,Nat.reduceLeDiff,layC,ld25,bd30,cl6,t1,qt]
 refine(z58 (r0.mono hx hw) (few6 hc) hx.wf).mono ?_
 rintro v H5 ⟨hx5,out,rfl,hot⟩
 obtain⟨ta,tc,cellst,rfl,-⟩:=hot.rep.six
 have gq5:=hx5.get hx.wf gq
 have n5:=hx5.next
 have nx:=hx.next
 have lq:=hx.wf _ _ gq
 repeat' (first|(refine EvC.ret ?_)|(refine z0k ?_;simp (disch:=first|omega|rfl) only[sB,Nat.reduceEqDiff,Nat.reduceAdd,one,Nat.reduceLeDiff,st30,t2,gq5]))
 have hot':OT (H5.put (H.next+1) (some (.row (eightT 3 t ta tc none 0 0) 30))) (Rg H.next H5.next) t (six t ta tc):=hot.to fun n hn hl=>⟨by have:=hn.1;rw[get_put,if_neg (by omega)],⟨by have:=hn.1;omega,hl⟩,by rw[z06];exact hl⟩
 exact z0b rfl (by simp only[sB,Nat.reduceEqDiff,t2];rfl) (by simp only[sB,Nat.reduceAdd,cutC,ld30];rfl) (by simp only[sB,Nat.reduceEqDiff];rfl) ⟨(hx.trans hx5).pt (by omega) gq5 _,_,.mk 3 t [],by rw[hbd];rfl,.leaf _ 3 t (six t ta tc) (by decide) hot'.1 hot'.2,fun b h=>by rw[hbd] at h;cases h;rfl⟩
theorem zbc:∀m:Nat,RBodyP m
 |0=>fun t cs H h=>absurd h (Nat.not_lt_zero _)
 |m+1=>fun t cs H hs r hc hw=>zl5 (zbc m) hs r hc hw
set_option maxHeartbeats 16000000 in
theorem zn3 {m:Nat}:∀{u:Bdy}{cs:List Value}{S:Nat→Prop}{H:Heap},SizeOf.sizeOf u < m→RepBI H S u cs→FewB 1000000 u→(∀n,S n→n < H.next)→H.wf →
  EvF Tryz.prog okT 47 [.agg ⟨cs⟩] H fun v H'=>HX H H'∧∃out,v=.agg ⟨out⟩∧RepS H' (fun n=>S n∨(H.next≤n∧n < H'.next)) (toldB u) out:=by
 induction m with
 |zero=>intro u cs S H h;omega
 |succ m ih =>
 intro u cs S H hsz r hfew hS hw
 have hlen:=hfew.len
 have ean:apOk Tryz.prog 23 25 6:=ap23
 obtain⟨ta,tc,a,c,cells,rfl,hk,hr,hlc,hcm,hel⟩:=r.inv
 refine EvF.enter rfl Tryz.func47 (by decide) rfl ?_
 (repeat refine EvC.seq ?_);refine EvC.reg ?_;simp (disch:=first|omega|rfl) only[sB,initTm,dBox,dAlloc,Value.cells,one,zr25]
 obtain⟨H2,e2,hx2,gb,gq,hn2,hw2⟩:=new2 hw (.row (eightT u.kind u.term ta tc a u.sub.length c) 30) (.row zero6 25)
 simp only[e2]
 clear e2
 have qb:=row8 gb
 have hmx:u.sub.length≤9223372036854775807:=by omega
 (repeat refine EvC.seq ?_);refine EvC.reg ?_;simp (disch:=first|omega|rfl) only[sA]
 (repeat refine EvC.seq ?_);refine EvC.reg ?_;simp (disch:=first|omega|rfl) only[sA]
 refine EvC.join (fun st=>∃tm G ao co,st=⟨tm,[],G⟩∧tm.get 1=some (.pointer (some ⟨H.next,0,none⟩))∧tm.get 2=some (.pointer (some ⟨H.next+1,0,none⟩))∧tm.get 3=some (.slice ao u.sub.length co) ∧
  G.get H.next=some (.row (eightT u.kind u.term ta tc a u.sub.length c) 30)∧G.get (H.next+1)=some (.row zero6 25) ∧
  LT G 25 (fun n=>(S n∨(H.next+2≤n∧n < G.next))∧ao≠some ⟨n,0,none⟩) (u.sub.map toldB) ao co∧(∀n,ao=some ⟨n,0,none⟩→H.next+2≤n∧n < G.next)∧HX H G) ?_ ?_
 ·refine EvC.block (EvC.loop (fun k' st=>∃tm G i ao co,st=⟨tm,[],G⟩∧k'=u.sub.length - i∧i≤u.sub.length∧tm.get 1=some (.pointer (some ⟨H.next,0,none⟩))∧tm.get 2=some (.pointer (some ⟨H.next+1,0,none⟩))∧tm.get 3=some (.slice ao i co) ∧
   tm.get 4=some (.int .i64 (i:Nat)) ∧
   G.get H.next=some (.row (eightT u.kind u.term ta tc a u.sub.length c) 30)∧G.get (H.next+1)=some (.row zero6 25) ∧
   LT G 25 (fun n=>(S n∨(H.next+2≤n∧n < G.next))∧ao≠some ⟨n,0,none⟩) ((u.sub.take i).map toldB) ao co∧(∀n,ao=some ⟨n,0,none⟩→H.next+2≤n∧n < G.next)∧HX H G) ?_ u.sub.length _ ?_)
  rotate_left
  ·exact⟨_,_,0,none,0,rfl,rfl,Nat.zero_le _,(by simp only[sG,Nat.reduceEqDiff,reduceCtorEq]),(by simp only[sG,Nat.reduceEqDiff,reduceCtorEq]),(by simp only[sG,Nat.reduceEqDiff,reduceCtorEq]),(by simp only[sB,Nat.reduceEqDiff,reduceCtorEq];rfl),gb,gq,.nil,fun n h=>(by cases h),hx2⟩
  rintro k' st ⟨tm,G,i,ao,co,rfl,rfl,hi,t1,t2,t3,t4,gbG,gqG,hlt',hao,hxG⟩
  have qbG:=row8 gbG
  have hwG:=hxG.wf
  by_cases hlt:i < u.sub.length
  rotate_left
  ·repeat' (first|refine EvC.seq ?_|(refine EvC.exit ?_;try simp only[sB])|(refine EvC.reg ?_;simp (disch:=first|omega|rfl) only[sB,Nat.reduceEqDiff,z2r,ld28,ln28,t1,t4,qbG,decn hlt])|(refine EvC.condF ?_ ?_;simp (disch:=first|omega|rfl) only[sB,Nat.reduceEqDiff];refine z07 ?_))
   obtain rfl:i=u.sub.length:=by omega
   rw[List.take_length] at hlt'
   exact⟨_,_,ao,co,rfl,(by simp only[sG,Nat.reduceEqDiff,t1]),(by simp only[sG,Nat.reduceEqDiff,t2]),(by simp only[sG,Nat.reduceEqDiff,t3]),gbG,gqG,hlt',hao,hxG⟩
  obtain⟨b,o,rfl,hSb,hbl,hld,hri⟩:=hel i hlt
  obtain⟨ta1,tc1,a1,c1,cells1,e1,-⟩:=hri.inv
  rw[e1] at hld hri
  have hld1:=hxG.load hw hld
  (repeat refine EvC.seq ?_);refine EvC.reg ?_;simp (disch:=first|omega|rfl) only[sB,Nat.reduceEqDiff,z2r,ld28,ln28,t1,t4,qbG,decl hlt]
  refine EvC.condT (by simp (disch:=first|omega|rfl) only[sB,Nat.reduceEqDiff]) ?_;(try refine EvC.skip ?_);(try simp only[z00,z01])
  refine EvC.seq ?_
  refine EvC.block ?_
  refine EvC.reg ?_;simp (disch:=first|omega|rfl) only[sB,Nat.reduceEqDiff,Nat.reduceAdd,Value.cells,layC,z2r,ld28,ia28,ld30,cl47,z4g,t1,t3,t4,qbG,hld1]
  have hsz1:=Bdy.size u u.sub[i] (List.getElem_mem _)
  refine(ih (u:=u.sub[i]) (by omega) (hri.to fun n hn hl=>⟨hxG.keep n hl,hn,Nat.lt_of_lt_of_le hl hxG.next⟩) (hfew.sub _ (List.getElem_mem _)) (fun n hn=>Nat.lt_of_lt_of_le (hS n hn) hxG.next) hwG).mono ?_
  rintro v H5 ⟨hx5,out,rfl,hrep⟩
  obtain⟨t6,k6,cells6,rfl,-⟩:=hrep.rep.six
  try simp (disch:=first|omega|rfl) only[sB,Nat.reduceEqDiff,Nat.reduceAdd,one]
  obtain⟨H6,e6,hx6,g6,hn6,hw6⟩:=new1 hx5.wf (.row (six (toldB u.sub[i]) t6 k6) 25)
  simp only[e6]
  clear e6
  have hx46:=hx5.trans hx6
  have n5:=hx5.next
  have nG:=hxG.next
  have lqG:=hwG _ _ gqG
  have etl:((u.sub.take i).map toldB).length=i:=by rw[List.length_map,List.length_take];omega
  obtain⟨H7,e7,hlt7,hk7,hn7⟩:=LT.push (P:=Tryz.prog) (t:=23) (E':=fun n=>(S n∨(H.next+2≤n∧n < H6.next+1))∧(some ⟨H6.next,0,none⟩:Option Addr)≠some ⟨n,0,none⟩) (E2:=fun n=>S n∨(G.next≤n∧n < H5.next)) (u:=toldB u.sub[i]) (c1:=1) ean
   (hlt'.to (H':=H6) (E':=fun n=>(S n∨(H.next+2≤n∧n < G.next))∧ao≠some ⟨n,0,none⟩) (fun n _ hl=>hx46.keep n hl) hx46.next (fun n hn=>hn) fun n hn h=>h.2 hn) hw6 (ld1 g6 rfl) (hrep.to fun n hn hl=>⟨hx6.keep n hl,hn,by omega⟩)
   (fun n hn ha=>by
    have h1:=hao n ha
    rcases hn with hn|hn
    ·have:=hS n hn;omega
    ·omega) (fun n hn=>by
    rcases hn.1 with h|h
    ·have:=hS n h;omega
    ·omega) (fun n hn=>by
    rcases hn with h|h
    ·have:=hS n h;omega
    ·omega) (by rw[etl];unfold most;omega) (fun n hn=>by
    rcases hn with ⟨h,_⟩|h
    ·refine⟨h.imp_right fun h=>⟨h.1,by omega⟩,fun e=>?_⟩
     injection e with e;injection e with e
     rcases h with h|h
     ·have:=hS n h;omega
     ·omega
    ·refine⟨h.imp_right fun h=>⟨by omega,by omega⟩,fun e=>?_⟩
     injection e with e;injection e with e
     rcases h with h|h
     ·have:=hS n h;omega
     ·omega) (fun h=>h.2 rfl)
  rw[etl] at e7 hlt7
  have ha1:ao≠some ⟨H.next,0,none⟩:=fun h=>by have:=hao _ h;omega
  have ha2:ao≠some ⟨H.next+1,0,none⟩:=fun h=>by have:=hao _ h;omega
  have gb7:=hk7.get hw6 (hx46.get hwG gbG) ha1
  have gq7:=hk7.get hw6 (hx46.get hwG gqG) ha2
  have hx7:HX H H7:=(hxG.trans hx46).then hk7 fun n hn h=>by have:=hao _ h;omega
  repeat' (first|(refine EvC.reg ?_;simp (disch:=first|omega|rfl) only[sB,Nat.reduceEqDiff,t4,z0c])|(refine z0k ?_;simp (disch:=first|omega|rfl) only[sB,Nat.reduceEqDiff,e7]))
  refine⟨u.sub.length - (i+1),by omega,_,_,i+1,some ⟨H6.next,0,none⟩,i+1,rfl,rfl,by omega,(by simp only[sG,Nat.reduceEqDiff,t1]),(by simp only[sG,Nat.reduceEqDiff,t2]),(by simp only[sG,Nat.reduceEqDiff]),(by simp only[sB,Nat.reduceEqDiff];rfl),gb7,gq7,?_,fun n h=>by injection h with h;injection h with h;omega,hx7⟩
  rw[←List.take_append_getElem hlt,List.map_append,hn7]
  exact hlt7
 rintro st ⟨tm,G,ao,co,rfl,t1,t2,t3,gb,gq,hlt',hao,hxG⟩
 have qb:=row8 gb
 have htold:=z2c u
 have hll:(u.sub.map toldB).length=u.sub.length:=List.length_map _
 have hww:=hxG.wf
 have lq:=hww _ _ gq
 have hcm':co≤maxLen:=by
  rcases hlt' with ⟨-,-,rfl⟩|⟨b,cells,-,-,h,-⟩
  ·exact Nat.zero_le _
  ·exact h
 have hrG:RepS G S u.term (six u.term ta tc):=hr.to fun n hn hl=>⟨hxG.keep n hl,hn,Nat.lt_of_lt_of_le hl hxG.next⟩
 have nG:=hxG.next
 simp only[z00]
 generalize hL:u.sub.map toldB=L at htold hll hlt'
 (repeat refine EvC.seq ?_);refine EvC.reg ?_;simp (disch:=first|omega|rfl) only[sB,z1x,ld3,t1,qb]
 refine EvC.join (fun st=>∃tm',st=⟨tm',[],G⟩∧tm'.get 2=some (.pointer (some ⟨H.next+1,0,none⟩))∧toldB u=atmT sTrue) ?_ ?_
 rotate_left
 ·rintro st ⟨tm,rfl,t2,htr⟩
  (repeat refine EvC.seq ?_);refine EvC.reg ?_;simp (disch:=first|omega|rfl) only[sB,Nat.reduceEqDiff,cl25]
  refine(zib hww).mono ?_
  rintro v H5 ⟨rfl,hx5⟩
  have n5:=hx5.next
  have gq5:=hx5.get hww gq
  repeat' (first|(refine EvC.ret ?_)|(refine z0k ?_;simp (disch:=first|omega|rfl) only[sB,Nat.reduceAdd,one,st25,t2,gq5]))
  refine z0a rfl (by simp only[sB,Nat.reduceEqDiff,t2];rfl) (by simp only[sB,Nat.reduceAdd,cutC,ld25];rfl) ⟨(hxG.trans hx5).pt (by omega) gq5 _,_,rfl,?_⟩
  rw[htr]
  exact z1t (by decide)
 refine EvC.block ?_
 by_cases k2:u.kind=2
 ·(repeat refine EvC.seq ?_);refine EvC.reg ?_;simp (disch:=first|omega|rfl) only[sB,Nat.reduceEqDiff,z0i k2]
  refine EvC.condT (by simp (disch:=first|omega|rfl) only[sB,Nat.reduceEqDiff]) ?_;(try refine EvC.skip ?_);(try simp only[z00,z01])
  (repeat refine EvC.seq ?_);refine EvC.reg ?_;simp (disch:=first|omega|rfl) only[sB,Nat.reduceEqDiff,cl25]
  refine(zib hww).mono ?_
  rintro v H5 ⟨rfl,hx5⟩
  have n5:=hx5.next
  have gq5:=hx5.get hww gq
  repeat' (first|(refine EvC.ret ?_;try simp only[z05,z03])|(refine z0k ?_;simp (disch:=first|omega|rfl) only[sB,Nat.reduceAdd,one,st25,t2,gq5]))
  refine z0a rfl (by simp only[sB,Nat.reduceEqDiff,t2];rfl) (by simp only[sB,Nat.reduceAdd,cutC,ld25];rfl) ⟨(hxG.trans hx5).pt (by omega) gq5 _,_,rfl,?_⟩
  rw[htold,tellB,if_pos k2]
  exact z1t (by decide)
 (repeat refine EvC.seq ?_);refine EvC.reg ?_;simp (disch:=first|omega|rfl) only[sB,Nat.reduceEqDiff,z0j k2]
 refine EvC.condF (by simp (disch:=first|omega|rfl) only[sB,Nat.reduceEqDiff]) ?_;(try refine EvC.skip ?_);(try simp only[z00,z01])
 by_cases k3:u.kind=3
 ·(repeat refine EvC.seq ?_);refine EvC.reg ?_;simp (disch:=first|omega|rfl) only[sB,Nat.reduceEqDiff,z0i k3]
  refine EvC.condT (by simp (disch:=first|omega|rfl) only[sB,Nat.reduceEqDiff]) ?_;(try refine EvC.skip ?_);(try simp only[z00,z01])
  (repeat refine EvC.seq ?_);refine EvC.reg ?_;simp (disch:=first|omega|rfl) only[sB,Nat.reduceEqDiff,z4h,ld25,cl6,t1,qb]
  refine(z58 hrG.rep (hfew.term) hww).mono ?_
  rintro v H5 ⟨hx5,out,rfl,hot⟩
  obtain⟨a5,c5,cells5,rfl,-⟩:=hot.rep.six
  have n5:=hx5.next
  have gq5:=hx5.get hww gq
  repeat' (first|(refine EvC.ret ?_;try simp only[z05,z03])|(refine z0k ?_;simp (disch:=first|omega|rfl) only[sB,Nat.reduceAdd,one,st25,t2,gq5]))
  refine z0a rfl (by simp only[sB,Nat.reduceEqDiff,t2];rfl) (by simp only[sB,Nat.reduceAdd,cutC,ld25];rfl) ⟨(hxG.trans hx5).pt (by omega) gq5 _,_,rfl,?_⟩
  rw[htold,tellB,if_neg k2,if_pos k3]
  refine hot.1.to fun n hn hl=>?_
  have h1:G.next≤n:=hn.1
  exact⟨by rw[get_put,if_neg (by omega)],.inr ⟨by omega,by rw[z06];exact hl⟩,by rw[z06];exact hl⟩
 (repeat refine EvC.seq ?_);refine EvC.reg ?_;simp (disch:=first|omega|rfl) only[sB,Nat.reduceEqDiff,z0j k3]
 refine EvC.condF (by simp (disch:=first|omega|rfl) only[sB,Nat.reduceEqDiff]) ?_;(try refine EvC.skip ?_);(try simp only[z00,z01])
 by_cases kk4:u.kind=4
 ·(repeat refine EvC.seq ?_);refine EvC.reg ?_;simp (disch:=first|omega|rfl) only[sB,Nat.reduceEqDiff,z0i kk4]
  refine EvC.condT (by simp (disch:=first|omega|rfl) only[sB,Nat.reduceEqDiff]) ?_;(try refine EvC.skip ?_);(try simp only[z00,z01])
  by_cases l4:L.length=2
  ·have k4:u.kind=4∧L.length=2:=⟨kk4,l4⟩
   have hl':(u.sub.length:Int)=2:=by omega
   rcases hlt' with ⟨h,-⟩|⟨b,cells,rfl,p1,p2,p3,p4,p5,p6,p7⟩
   ·rw[h] at l4;cases l4
   have hcl:G.load ⟨b,0,none⟩ (L.length*6)=some (cells.take (L.length*6)):=by
    unfold Heap.load Heap.cells
    simp only[p3,List.drop_zero]
    rw[if_pos (by rw[Nat.beq_eq,List.length_take];omega)]
   rw[hll] at hcl
   have hone:(cells.take (u.sub.length*6)).all one=true:=by
    rw[←hll]
    exact z25 _ p6 fun i hi=>(z5s (p7 i _ (List.getElem?_eq_getElem hi)).rep).1
   (repeat refine EvC.seq ?_);refine EvC.reg ?_;simp (disch:=first|omega|rfl) only[sB,Nat.reduceEqDiff,ln23,t3,z0i hl']
   refine EvC.condT (by simp (disch:=first|omega|rfl) only[sB,Nat.reduceEqDiff]) ?_;(try refine EvC.skip ?_);(try simp only[z00,z01])
   (repeat refine EvC.seq ?_);refine EvC.reg ?_;simp (disch:=first|omega|rfl) only[sB,Nat.reduceEqDiff,cl24,t3]
   refine(F_ev (by omega) (by omega) hcl hone hww).mono ?_
   rintro v H5 ⟨rfl,g5,n5,hx5⟩
   have gq5:=hx5.get hww gq
   repeat' (first|(refine EvC.ret ?_;try simp only[z05,z03])|(refine z0k ?_;simp (disch:=first|omega|rfl) only[sB,Nat.reduceAdd,one,st25,t2,gq5]))
   refine z0a rfl (by simp only[sB,Nat.reduceEqDiff,t2];rfl) (by simp only[sB,Nat.reduceAdd,cutC,ld25];rfl) ⟨(hxG.trans hx5).pt (by omega) gq5 _,_,rfl,?_⟩
   rw[htold,tellB,if_neg k2,if_neg k3,if_pos k4]
   have hcmp:RepS H5 (fun n=>S n∨(H.next+2≤n∧n < H5.next)) (cmpT sCma L) (six (cmpT sCma L) (some ⟨G.next+2,0,none⟩) L.length):=RepS.row (t:=cmpT sCma L) (z5d (by decide)) rfl g5 (.inr ⟨by omega,by omega⟩) (by omega) (by show L.length*6≤_;rw[List.length_take];omega) (Nat.le_refl _) (by show L.length≤maxLen;exact Nat.le_trans p1 p2) fun j hj=>by
    have hj':j < L.length:=hj
    have e:((cells.take (u.sub.length*6)).drop (j*6)).take 6=(cells.drop (j*6)).take 6:=by
     rw[List.drop_take,List.take_take];congr 1;omega
    rw[e]
    exact(p7 j _ (List.getElem?_eq_getElem hj')).to fun n hn hl=>⟨hx5.keep n hl,hn.1.imp_right fun h=>⟨h.1,by omega⟩,by omega⟩
   have e6:six (cmpT sCma L) (some ⟨G.next+2,0,none⟩) L.length=[.int .i64 5,.string sCma,.string ByteArray.empty,.int .u64 0,.int .i64 0,.slice (some ⟨G.next+2,0,none⟩) u.sub.length u.sub.length]:=by show [_,_,_,_,_,Value.slice _ L.length L.length]=_;rw[hll];rfl
   rw[e6] at hcmp
   refine hcmp.to fun n hn hl=>?_
   have hne:n≠H.next+1:=by
    rcases hn with h|h
    ·have:=hS n h;omega
    ·omega
   exact⟨by rw[get_put,if_neg hne],hn.imp_right fun h=>⟨by omega,by rw[z06];omega⟩,by rw[z06];omega⟩
  ·have hl':(u.sub.length:Int)≠2:=by omega
   repeat' (first|refine EvC.seq ?_|(refine EvC.skip ?_;try simp only[sA])|(refine EvC.reg ?_;simp (disch:=first|omega|rfl) only[sB,Nat.reduceEqDiff,ln23,t3,z0j hl'])|(refine EvC.condF ?_ ?_;simp (disch:=first|omega|rfl) only[sB,Nat.reduceEqDiff];refine z07 ?_))
   refine⟨_,rfl,(by simp only[sG,Nat.reduceEqDiff,t2]),?_⟩
   rw[htold]
   exact z33 k2 k3 (fun h=>by have:=h.1;first|exact l4 h.2|omega) (fun h=>by have:=h.1;first|exact l5 h.2|omega) (fun h=>by have:=h.1;omega) (fun h=>by have:=h.1;omega) (fun h=>by have:=h.1;omega)
 (repeat refine EvC.seq ?_);refine EvC.reg ?_;simp (disch:=first|omega|rfl) only[sB,Nat.reduceEqDiff,z0j kk4]
 refine EvC.condF (by simp (disch:=first|omega|rfl) only[sB,Nat.reduceEqDiff]) ?_;(try refine EvC.skip ?_);(try simp only[z00,z01])
 by_cases kk5:u.kind=5
 ·(repeat refine EvC.seq ?_);refine EvC.reg ?_;simp (disch:=first|omega|rfl) only[sB,Nat.reduceEqDiff,z0i kk5]
  refine EvC.condT (by simp (disch:=first|omega|rfl) only[sB,Nat.reduceEqDiff]) ?_;(try refine EvC.skip ?_);(try simp only[z00,z01])
  by_cases l5:L.length=2
  ·have k5:u.kind=5∧L.length=2:=⟨kk5,l5⟩
   have hl':(u.sub.length:Int)=2:=by omega
   rcases hlt' with ⟨h,-⟩|⟨b,cells,rfl,p1,p2,p3,p4,p5,p6,p7⟩
   ·rw[h] at l5;cases l5
   have hcl:G.load ⟨b,0,none⟩ (L.length*6)=some (cells.take (L.length*6)):=by
    unfold Heap.load Heap.cells
    simp only[p3,List.drop_zero]
    rw[if_pos (by rw[Nat.beq_eq,List.length_take];omega)]
   rw[hll] at hcl
   have hone:(cells.take (u.sub.length*6)).all one=true:=by
    rw[←hll]
    exact z25 _ p6 fun i hi=>(z5s (p7 i _ (List.getElem?_eq_getElem hi)).rep).1
   (repeat refine EvC.seq ?_);refine EvC.reg ?_;simp (disch:=first|omega|rfl) only[sB,Nat.reduceEqDiff,ln23,t3,z0i hl']
   refine EvC.condT (by simp (disch:=first|omega|rfl) only[sB,Nat.reduceEqDiff]) ?_;(try refine EvC.skip ?_);(try simp only[z00,z01])
   (repeat refine EvC.seq ?_);refine EvC.reg ?_;simp (disch:=first|omega|rfl) only[sB,Nat.reduceEqDiff,cl24,t3]
   refine(F_ev (by omega) (by omega) hcl hone hww).mono ?_
   rintro v H5 ⟨rfl,g5,n5,hx5⟩
   have gq5:=hx5.get hww gq
   repeat' (first|(refine EvC.ret ?_;try simp only[z05,z03])|(refine z0k ?_;simp (disch:=first|omega|rfl) only[sB,Nat.reduceAdd,one,st25,t2,gq5]))
   refine z0a rfl (by simp only[sB,Nat.reduceEqDiff,t2];rfl) (by simp only[sB,Nat.reduceAdd,cutC,ld25];rfl) ⟨(hxG.trans hx5).pt (by omega) gq5 _,_,rfl,?_⟩
   rw[htold,tellB,if_neg k2,if_neg k3,if_neg fun h=>absurd h.1 kk4,if_pos k5]
   have hcmp:RepS H5 (fun n=>S n∨(H.next+2≤n∧n < H5.next)) (cmpT sSem L) (six (cmpT sSem L) (some ⟨G.next+2,0,none⟩) L.length):=RepS.row (t:=cmpT sSem L) (z5d (by decide)) rfl g5 (.inr ⟨by omega,by omega⟩) (by omega) (by show L.length*6≤_;rw[List.length_take];omega) (Nat.le_refl _) (by show L.length≤maxLen;exact Nat.le_trans p1 p2) fun j hj=>by
    have hj':j < L.length:=hj
    have e:((cells.take (u.sub.length*6)).drop (j*6)).take 6=(cells.drop (j*6)).take 6:=by
     rw[List.drop_take,List.take_take];congr 1;omega
    rw[e]
    exact(p7 j _ (List.getElem?_eq_getElem hj')).to fun n hn hl=>⟨hx5.keep n hl,hn.1.imp_right fun h=>⟨h.1,by omega⟩,by omega⟩
   have e6:six (cmpT sSem L) (some ⟨G.next+2,0,none⟩) L.length=[.int .i64 5,.string sSem,.string ByteArray.empty,.int .u64 0,.int .i64 0,.slice (some ⟨G.next+2,0,none⟩) u.sub.length u.sub.length]:=by show [_,_,_,_,_,Value.slice _ L.length L.length]=_;rw[hll];rfl
   rw[e6] at hcmp
   refine hcmp.to fun n hn hl=>?_
   have hne:n≠H.next+1:=by
    rcases hn with h|h
    ·have:=hS n h;omega
    ·omega
   exact⟨by rw[get_put,if_neg hne],hn.imp_right fun h=>⟨by omega,by rw[z06];omega⟩,by rw[z06];omega⟩
  ·have hl':(u.sub.length:Int)≠2:=by omega
   repeat' (first|refine EvC.seq ?_|(refine EvC.skip ?_;try simp only[sA])|(refine EvC.reg ?_;simp (disch:=first|omega|rfl) only[sB,Nat.reduceEqDiff,ln23,t3,z0j hl'])|(refine EvC.condF ?_ ?_;simp (disch:=first|omega|rfl) only[sB,Nat.reduceEqDiff];refine z07 ?_))
   refine⟨_,rfl,(by simp only[sG,Nat.reduceEqDiff,t2]),?_⟩
   rw[htold]
   exact z33 k2 k3 (fun h=>by have:=h.1;first|exact l4 h.2|omega) (fun h=>by have:=h.1;first|exact l5 h.2|omega) (fun h=>by have:=h.1;omega) (fun h=>by have:=h.1;omega) (fun h=>by have:=h.1;omega)
 (repeat refine EvC.seq ?_);refine EvC.reg ?_;simp (disch:=first|omega|rfl) only[sB,Nat.reduceEqDiff,z0j kk5]
 refine EvC.condF (by simp (disch:=first|omega|rfl) only[sB,Nat.reduceEqDiff]) ?_;(try refine EvC.skip ?_);(try simp only[z00,z01])
 by_cases kk6:u.kind=6
 ·(repeat refine EvC.seq ?_);refine EvC.reg ?_;simp (disch:=first|omega|rfl) only[sB,Nat.reduceEqDiff,z0i kk6]
  refine EvC.condT (by simp (disch:=first|omega|rfl) only[sB,Nat.reduceEqDiff]) ?_;(try refine EvC.skip ?_);(try simp only[z00,z01])
  by_cases l6:L.length=2
  ·have k6:u.kind=6∧L.length=2:=⟨kk6,l6⟩
   have hl':(u.sub.length:Int)=2:=by omega
   rcases hlt' with ⟨h,-⟩|⟨b,cells,rfl,p1,p2,p3,p4,p5,p6,p7⟩
   ·rw[h] at l6;cases l6
   have hcl:G.load ⟨b,0,none⟩ (L.length*6)=some (cells.take (L.length*6)):=by
    unfold Heap.load Heap.cells
    simp only[p3,List.drop_zero]
    rw[if_pos (by rw[Nat.beq_eq,List.length_take];omega)]
   rw[hll] at hcl
   have hone:(cells.take (u.sub.length*6)).all one=true:=by
    rw[←hll]
    exact z25 _ p6 fun i hi=>(z5s (p7 i _ (List.getElem?_eq_getElem hi)).rep).1
   (repeat refine EvC.seq ?_);refine EvC.reg ?_;simp (disch:=first|omega|rfl) only[sB,Nat.reduceEqDiff,ln23,t3,z0i hl']
   refine EvC.condT (by simp (disch:=first|omega|rfl) only[sB,Nat.reduceEqDiff]) ?_;(try refine EvC.skip ?_);(try simp only[z00,z01])
   (repeat refine EvC.seq ?_);refine EvC.reg ?_;simp (disch:=first|omega|rfl) only[sB,Nat.reduceEqDiff,cl24,t3]
   refine(F_ev (by omega) (by omega) hcl hone hww).mono ?_
   rintro v H5 ⟨rfl,g5,n5,hx5⟩
   have gq5:=hx5.get hww gq
   repeat' (first|(refine EvC.ret ?_;try simp only[z05,z03])|(refine z0k ?_;simp (disch:=first|omega|rfl) only[sB,Nat.reduceAdd,one,st25,t2,gq5]))
   refine z0a rfl (by simp only[sB,Nat.reduceEqDiff,t2];rfl) (by simp only[sB,Nat.reduceAdd,cutC,ld25];rfl) ⟨(hxG.trans hx5).pt (by omega) gq5 _,_,rfl,?_⟩
   rw[htold,tellB,if_neg k2,if_neg k3,if_neg fun h=>absurd h.1 kk4,if_neg fun h=>absurd h.1 kk5,if_pos k6]
   have hcmp:RepS H5 (fun n=>S n∨(H.next+2≤n∧n < H5.next)) (cmpT sArr L) (six (cmpT sArr L) (some ⟨G.next+2,0,none⟩) L.length):=RepS.row (t:=cmpT sArr L) (z5d (by decide)) rfl g5 (.inr ⟨by omega,by omega⟩) (by omega) (by show L.length*6≤_;rw[List.length_take];omega) (Nat.le_refl _) (by show L.length≤maxLen;exact Nat.le_trans p1 p2) fun j hj=>by
    have hj':j < L.length:=hj
    have e:((cells.take (u.sub.length*6)).drop (j*6)).take 6=(cells.drop (j*6)).take 6:=by
     rw[List.drop_take,List.take_take];congr 1;omega
    rw[e]
    exact(p7 j _ (List.getElem?_eq_getElem hj')).to fun n hn hl=>⟨hx5.keep n hl,hn.1.imp_right fun h=>⟨h.1,by omega⟩,by omega⟩
   have e6:six (cmpT sArr L) (some ⟨G.next+2,0,none⟩) L.length=[.int .i64 5,.string sArr,.string ByteArray.empty,.int .u64 0,.int .i64 0,.slice (some ⟨G.next+2,0,none⟩) u.sub.length u.sub.length]:=by show [_,_,_,_,_,Value.slice _ L.length L.length]=_;rw[hll];rfl
   rw[e6] at hcmp
   refine hcmp.to fun n hn hl=>?_
   have hne:n≠H.next+1:=by
    rcases hn with h|h
    ·have:=hS n h;omega
    ·omega
   exact⟨by rw[get_put,if_neg hne],hn.imp_right fun h=>⟨by omega,by rw[z06];omega⟩,by rw[z06];omega⟩
  ·have hl':(u.sub.length:Int)≠2:=by omega
   by_cases l6t:L.length=3
   ·have hl3:(u.sub.length:Int)=3:=by omega
    obtain⟨x,y,z,hxy⟩:∃x y z,L=[x,y,z]:=by
     match L,l6t with
     |[x,y,z],_=>exact⟨x,y,z,rfl⟩
    subst hxy
    obtain⟨b,a1,c1,rfl,l0,r1,hbl⟩:=hlt'.el (i:=0) (by show 0 < 3;decide)
    obtain⟨b',a2,c2,e2,l1,r2,-⟩:=hlt'.el (i:=1) (by show 1 < 3;decide)
    cases e2
    obtain⟨b'',a3,c3,e3,l2,r3,-⟩:=hlt'.el (i:=2) (by show 2 < 3;decide)
    cases e3
    simp only[List.getElem_cons_zero,List.getElem_cons_succ,Nat.zero_mul,Nat.one_mul] at l0 l1 l2 r1 r2 r3
    rcases hlt' with ⟨h,-⟩|⟨b',cells,e,p1,p2,p3,p4,p5,p6,p7⟩
    ·cases h
    cases e
    have hco:3≤co:=p1
    have hcl:(⟨G.next+8,G.t⟩:Heap).load ⟨b,0,none⟩ (2*6)=some (cells.take 12):=by
     have p6':3*6≤cells.length:=p6
     show G.load _ _=_
     unfold Heap.load Heap.cells
     simp only[p3,List.drop_zero]
     rw[if_pos (by rw[Nat.beq_eq,List.length_take];omega)]
    have hone:(cells.take 12).all one=true:=z25 2 (by have p6':3*6≤cells.length:=p6;omega) fun i hi=>(z5s (p7 i _ (List.getElem?_eq_getElem (by show i < 3;omega))).rep).1
    have hxb:HX G ⟨G.next+8,G.t⟩:=(HX.refl hww).bump 8
    (repeat refine EvC.seq ?_);refine EvC.reg ?_;simp (disch:=first|omega|rfl) only[sB,Nat.reduceEqDiff,ln23,t3,z0j hl']
    refine EvC.condF (by simp (disch:=first|omega|rfl) only[sB,Nat.reduceEqDiff]) ?_;(try refine EvC.skip ?_);(try simp only[z00,z01])
    (repeat refine EvC.seq ?_);refine EvC.reg ?_;simp (disch:=first|omega|rfl) only[sB,Nat.reduceEqDiff,ln23,t3,z0i hl3]
    refine EvC.condT (by simp (disch:=first|omega|rfl) only[sB,Nat.reduceEqDiff]) ?_;(try refine EvC.skip ?_);(try simp only[z00,z01])
    have hs2:∀{H':Heap},dSl Tryz.prog 23 (.slice (some ⟨b,0,none⟩) u.sub.length co) none (some (.int .i64 2)) none H'=some (.val (.slice (some ⟨b,0,none⟩) 2 co) H'):=zfv (m:=2) sl23 (by omega)
    (repeat refine EvC.seq ?_);refine EvC.drw [([(0,0),(1,0)],some 2),([(3,0),(4,0),(5,0)],some 6),([],some 7),([],none)] (by kernel_rfl) ?_;simp (disch:=first|omega|rfl) only[sD,sB,Nat.reduceEqDiff,Nat.reduceAdd,reduceCtorEq,cl24,isAlloc,isRead,t3,hs2]
    refine(F_ev (n:=2) (by decide) (by decide) hcl hone hxb.wf).mono ?_
    rintro v H5 ⟨rfl,g5,n5,hx5⟩
    have n5':H5.next=G.next+8+3:=n5
    have hx5G:=hxb.trans hx5
    have l25:=hx5G.load hww l2
    repeat' (first|(refine z0n ?_;simp (disch:=first|omega|rfl) only[sV,sD,sB,Nat.reduceEqDiff,reduceCtorEq,Int.reduceToNat,ld25,cl23,t3,l2,l25,iz23,Nat.reduceMul,isAlloc,isRead]))
    refine(zpr (s:=sSem) (t:=cmpT sArr [x,y]) (a:=some ⟨G.next+8+2,0,none⟩) (c:=2) (u:=z) (a':=a3) (c':=c3) hx5.wf).mono ?_
    rintro v H6 ⟨b6,rfl,g6,lo6,hi6,hx6⟩
    have hx56:=hx5G.trans hx6
    have gq6:=hx56.get hww gq
    repeat' (first|(refine EvC.ret ?_;try simp only[z05,z03])|(refine z0n ?_;simp (disch:=first|omega|rfl) only[sD,sB,Nat.reduceEqDiff,Nat.reduceAdd,one,st25,t2,gq6]))
    refine z0a rfl (by simp only[sB,Nat.reduceEqDiff,t2];rfl) (by simp only[sB,Nat.reduceAdd,cutC,ld25];rfl) ⟨(hxG.trans hx56).pt (by omega) gq6 _,_,rfl,?_⟩
    have htt:toldB u=cmpT sSem [cmpT sArr [x,y],z]:=by
     rw[htold,tellB,if_neg k2,if_neg k3,if_neg (fun h=>kk4 h.1),if_neg (fun h=>kk5 h.1),if_neg (fun h=>by have:=h.2;omega),if_pos ⟨kk6,l6t⟩];rfl
    rw[htt]
    have rr:∀{w:Tm}{cs:List Value},RepS G (fun n=>(S n∨(H.next+2≤n∧n < G.next))∧(some ⟨b,0,none⟩:Option Addr)≠some ⟨n,0,none⟩) w cs→RepS H6 (fun n=>(S n∨(H.next+2≤n∧n < H6.next))) w cs:=fun h=>h.to fun n hn hl=>⟨hx56.keep n hl,hn.1.imp_right fun h=>⟨h.1,by omega⟩,by omega⟩
    have g56:=hx6.get hx5.wf g5
    have hxyr:RepS H6 (fun n=>(S n∨(H.next+2≤n∧n < H6.next))) (cmpT sArr [x,y]) (six (cmpT sArr [x,y]) (some ⟨G.next+8+2,0,none⟩) 2) :=
     RepS.row (t:=cmpT sArr [x,y]) (z5d (by decide)) rfl g56 (.inr ⟨by omega,by omega⟩) (by omega) (by show 2*6≤_;rw[List.length_take];have p6':3*6≤cells.length:=p6;omega) (Nat.le_refl _) (by decide) fun j hj=>by
      have hj':j < 2:=hj
      have e:((cells.take 12).drop (j*6)).take 6=(cells.drop (j*6)).take 6:=by
       rw[List.drop_take,List.take_take];congr 1;omega
      rw[e]
      match j,hj' with
      |0,_=>exact rr (p7 0 _ rfl)
      |1,_=>exact rr (p7 1 _ rfl)
    have ho:RepS H6 (fun n=>(S n∨(H.next+2≤n∧n < H6.next))) (cmpT sSem [cmpT sArr [x,y],z]) (six (cmpT sSem [cmpT sArr [x,y],z]) (some ⟨b6,0,none⟩) 2):=z4b (by decide) g6 (.inr ⟨by omega,hi6⟩) hx6.wf hxyr (rr r3)
    refine ho.to fun n hn hl=>?_
    have hne:n≠H.next+1:=by
     rcases hn with h|h
     ·have:=hS n h;omega
     ·omega
    exact⟨by rw[get_put,if_neg hne],hn.imp_right fun h=>⟨by omega,by rw[z06];omega⟩,by rw[z06];omega⟩
   ·have hl3:(u.sub.length:Int)≠3:=by omega
    repeat' (first|refine EvC.seq ?_|(refine EvC.skip ?_;try simp only[sA])|(refine EvC.reg ?_;simp (disch:=first|omega|rfl) only[sB,Nat.reduceEqDiff,ln23,t3,z0j hl',z0j hl3])|(refine EvC.condF ?_ ?_;simp (disch:=first|omega|rfl) only[sB,Nat.reduceEqDiff];refine z07 ?_))
    refine⟨_,rfl,(by simp only[sG,Nat.reduceEqDiff,t2]),?_⟩
    rw[htold]
    exact z33 k2 k3 (fun h=>kk4 h.1) (fun h=>kk5 h.1) (fun h=>l6 h.2) (fun h=>l6t h.2) (fun h=>by have:=h.1;omega)
 (repeat refine EvC.seq ?_);refine EvC.reg ?_;simp (disch:=first|omega|rfl) only[sB,Nat.reduceEqDiff,z0j kk6]
 refine EvC.condF (by simp (disch:=first|omega|rfl) only[sB,Nat.reduceEqDiff]) ?_;(try refine EvC.skip ?_);(try simp only[z00,z01])
 by_cases kk7:u.kind=7
 ·(repeat refine EvC.seq ?_);refine EvC.reg ?_;simp (disch:=first|omega|rfl) only[sB,Nat.reduceEqDiff,z0i kk7]
  refine EvC.condT (by simp (disch:=first|omega|rfl) only[sB,Nat.reduceEqDiff]) ?_;(try refine EvC.skip ?_);(try simp only[z00,z01])
  by_cases l7:L.length=1
  ·have hl':(u.sub.length:Int)=1:=by omega
   obtain⟨x,hxy⟩:∃x,L=[x]:=by
    match L,l7 with
    |[x],_=>exact⟨x,rfl⟩
   subst hxy
   obtain⟨b,a1,c1,rfl,l0,r1,hbl⟩:=hlt'.el (i:=0) (by show 0 < 1;decide)
   simp only[List.getElem_cons_zero,Nat.zero_mul] at l0 r1
   have hxb:HX G ⟨G.next+7,G.t⟩:=(HX.refl hww).bump 7
   (repeat refine EvC.seq ?_);refine EvC.reg ?_;simp (disch:=first|omega|rfl) only[sB,Nat.reduceEqDiff,ln23,t3,z0i hl']
   refine EvC.condT (by simp (disch:=first|omega|rfl) only[sB,Nat.reduceEqDiff]) ?_;(try refine EvC.skip ?_);(try simp only[z00,z01])
   (repeat refine EvC.seq ?_);refine EvC.drw [([(0,0),(1,0),(2,0),(3,0),(4,0)],some 5),([],some 6),([],none)] (by kernel_rfl) ?_;simp (disch:=first|omega|rfl) only[sD,sB,Nat.reduceEqDiff,Nat.reduceAdd,reduceCtorEq,Int.reduceToNat,z4h,ld25,cl23,isAlloc,isRead,t1,t3,qb,l0,iz23,Nat.zero_mul]
   refine(zpr (s:=sCol) (t:=u.term) (a:=ta) (c:=tc) (u:=x) (a':=a1) (c':=c1) hxb.wf).mono ?_
   rintro v H6 ⟨b6,rfl,g6,lo6,hi6,hx6⟩
   have lo6':G.next+7≤b6:=lo6
   have hx56:=hxb.trans hx6
   have gq6:=hx56.get hww gq
   have n6:G.next+7≤H6.next:=hx6.next
   repeat' (first|(refine EvC.ret ?_;try simp only[z05,z03])|(refine z0n ?_;simp (disch:=first|omega|rfl) only[sD,sB,Nat.reduceEqDiff,Nat.reduceAdd,one,st25,t2,gq6]))
   refine z0a rfl (by simp only[sB,Nat.reduceEqDiff,t2];rfl) (by simp only[sB,Nat.reduceAdd,cutC,ld25];rfl) ⟨(hxG.trans hx56).pt (by omega) gq6 _,_,rfl,?_⟩
   have htt:toldB u=cmpT sCol [u.term,x]:=by
    rw[htold,tellB,if_neg k2,if_neg k3,if_neg (fun h=>kk4 h.1),if_neg (fun h=>kk5 h.1),if_neg (fun h=>kk6 h.1),if_neg (fun h=>kk6 h.1),if_pos ⟨kk7,l7⟩];rfl
   rw[htt]
   have ho:RepS H6 (fun n=>(S n∨(H.next+2≤n∧n < H6.next))) (cmpT sCol [u.term,x]) (six (cmpT sCol [u.term,x]) (some ⟨b6,0,none⟩) 2):=z4b (by decide) g6 (.inr ⟨by omega,hi6⟩) hx6.wf (hrG.to fun n hn hl=>⟨hx56.keep n hl,.inl hn,by omega⟩) (r1.to fun n hn hl=>⟨hx56.keep n hl,hn.1.imp_right fun h=>⟨h.1,by omega⟩,by omega⟩)
   refine ho.to fun n hn hl=>?_
   have hne:n≠H.next+1:=by
    rcases hn with h|h
    ·have:=hS n h;omega
    ·omega
   exact⟨by rw[get_put,if_neg hne],hn.imp_right fun h=>⟨by omega,by rw[z06];omega⟩,by rw[z06];omega⟩
  ·have hl':(u.sub.length:Int)≠1:=by omega
   repeat' (first|refine EvC.seq ?_|(refine EvC.skip ?_;try simp only[sA])|(refine EvC.reg ?_;simp (disch:=first|omega|rfl) only[sB,Nat.reduceEqDiff,ln23,t3,z0j hl'])|(refine EvC.condF ?_ ?_;simp (disch:=first|omega|rfl) only[sB,Nat.reduceEqDiff];refine z07 ?_))
   refine⟨_,rfl,(by simp only[sG,Nat.reduceEqDiff,t2]),?_⟩
   rw[htold]
   exact z33 k2 k3 (fun h=>kk4 h.1) (fun h=>kk5 h.1) (fun h=>kk6 h.1) (fun h=>kk6 h.1) (fun h=>l7 h.2)
 repeat' (first|refine EvC.seq ?_|(refine EvC.skip ?_;try simp only[sA])|(refine EvC.reg ?_;simp (disch:=first|omega|rfl) only[sB,Nat.reduceEqDiff,z0j kk7])|(refine EvC.condF ?_ ?_;simp (disch:=first|omega|rfl) only[sB,Nat.reduceEqDiff];refine z07 ?_))
 refine⟨_,rfl,(by simp only[sG,Nat.reduceEqDiff,t2]),?_⟩
 rw[htold]
 exact z33 k2 k3 (fun h=>kk4 h.1) (fun h=>kk5 h.1) (fun h=>kk6 h.1) (fun h=>kk6 h.1) (fun h=>kk7 h.1)
abbrev saidT (e:Int) (b:Bool) (t:Tm) (a:Option Addr) (c:Nat):List Value:=[.int .i64 e,.bool b,.int .i64 t.kind,.string t.name,.string t.num,.int .u64 t.bits,.int .i64 t.var,.slice a t.args.length c]
abbrev said0:List Value:=[.int .i64 0,.bool false,.int .i64 0,.string ByteArray.empty,.string ByteArray.empty,.int .u64 0,.int .i64 0,.slice none 0 0]
def RSaid (H:Heap) (S:Nat→Prop):Er→List Value→Prop
 |.ok,cs=>cs=said0
 |.num e,cs=>e≠0∧cs=[.int .i64 e,.bool false,.int .i64 0,.string ByteArray.empty,.string ByteArray.empty,.int .u64 0,.int .i64 0,.slice none 0 0]
 |.ball t,cs=>∃a c,cs=saidT 0 true t a c∧RepS H S t (six t a c)
theorem RSaid.to {H H2:Heap}{S S2:Nat→Prop}{e:Er}{cs:List Value}(h:RSaid H S e cs) (hk:∀n,S n→n < H.next→H2.get n=H.get n∧S2 n∧n < H2.next):RSaid H2 S2 e cs:=by
 cases e with
 |ok=>exact h
 |num e=>exact h
 |ball t=>obtain⟨a,c,h1,h2⟩:=h;exact⟨a,c,h1,h2.to hk⟩
theorem RSaid.cells {H:Heap}{S:Nat→Prop}{e:Er}{cs:List Value}(h:RSaid H S e cs):∃n b t a c,cs=saidT n b t a c:=by
 cases e with
 |ok=>exact⟨0,false,zeroT,none,0,h⟩
 |num e=>exact⟨e,false,zeroT,none,0,h.2⟩
 |ball t=>obtain⟨a,c,h1,h2⟩:=h;exact⟨0,true,t,a,c,h1⟩
theorem rowS {H:Heap}{p:Nat}{T:TypeId}{x0 x1 x2 x3 x4 x5 x6 x7:Value}(h:H.get p=some (Blk.row [x0,x1,x2,x3,x4,x5,x6,x7] T)) :
  H.load ⟨p,0,none⟩ 1=some [x0]∧H.load ⟨p,1,none⟩ 1=some [x1]∧H.load ⟨p,2,none⟩ 6=some [x2,x3,x4,x5,x6,x7]∧H.load ⟨p,0,none⟩ 8=some [x0,x1,x2,x3,x4,x5,x6,x7]:=by
 refine⟨?_,?_,?_,?_⟩<;>simp only[Heap.load,Heap.cells,h]<;>rfl
theorem zbd {t:Tm}{a:Option Addr}{c:Nat}{S:Nat→Prop}{H:Heap}(r:RepS H S t (six t a c)) (hS:∀n,S n→n < H.next) (hw:H.wf) :
  EvF Tryz.prog okT 63 [.agg ⟨six t a c⟩] H fun v H'=>HX H H'∧v=.agg ⟨saidT 0 true t a c⟩∧RepS H' S t (six t a c):=by
 refine EvF.enter rfl Tryz.func63 (by decide) rfl ?_
 (repeat refine EvC.seq ?_);refine EvC.reg ?_;simp only[sB,initTm,dBox,dAlloc,Value.cells,one,zr39]
 obtain⟨H2,e2,hx2,gt,gs,hn2,hw2⟩:=new2 hw (.row (six t a c) 25) (.row said0 39)
 simp only[e2]
 clear e2
 have qt:=row6 gt
 repeat' (first|refine EvC.seq ?_|(refine EvC.ret ?_)|(refine EvC.reg ?_;simp only[sB,Nat.reduceEqDiff,Nat.reduceAdd,Value.cells,one,reduceCtorEq,Nat.reduceLeDiff,layC,ld25,bd39,st39,qt,gs]))
 have hx:=hx2.pt (i:=H.next+1) (by omega) gs (some (.row (saidT 0 true t a c) 39))
 exact z0a rfl (by simp only[sB,Nat.reduceEqDiff,reduceCtorEq];rfl) (by simp only[sB,Nat.reduceAdd,cutC,ld39]) ⟨hx,rfl,r.to fun n hn hl=>⟨hx.keep n hl,hn,Nat.lt_of_lt_of_le hl hx.next⟩⟩
set_option maxHeartbeats 4000000 in
theorem zbe {s:ByteArray}{t:Tm}{cs:List Value}{H:Heap}(hs:s.size≤maxLen) (r0:RepT H t cs) (hf:Few 1000000 t) (hw:H.wf) :
  EvF Tryz.prog okT 28 [.string s,.agg ⟨cs⟩] H fun v H'=>HX H H'∧∃out,v=.agg ⟨out⟩∧RSaid H' (Rg H.next H'.next) (.ball (typeT s t)) out:=by
 obtain⟨a,c,cells,rfl,-⟩:=r0.six
 refine EvF.enter rfl Tryz.func28 (by decide) rfl ?_
 (repeat refine EvC.seq ?_);refine EvC.reg ?_;simp only[sB,initTm,dBox,dAlloc,Value.cells,one,reduceCtorEq,zr39]
 obtain⟨H2,e2,hx2,gt,gs,hn2,hw2⟩:=new2 hw (.row (six t a c) 25) (.row said0 39)
 simp only[e2]
 clear e2
 have qt:=row6 gt
 (repeat refine EvC.seq ?_);refine EvC.drw [([(0,0)],some 1),([(2,0)],some 3),([],some 4),([],some 5),([],some 6),([],none)] (by kernel_rfl) ?_;simp only[sD,sB,Nat.reduceEqDiff,Nat.reduceAdd,reduceCtorEq,cl25,isAlloc,isRead]
 have hxb:HX H2 ⟨H2.next+7,H2.t⟩:=(HX.refl hw2).bump 7
 refine(zib hxb.wf).mono ?_
 rintro v H3 ⟨rfl,hx3⟩
 have n3:H2.next+7≤H3.next:=hx3.next
 have hx23:=hxb.trans hx3
 have qt3:=row6 (hx23.get hw2 gt)
 have hxh3:=hx2.trans hx23
 repeat' (first|(refine z0n ?_;simp only[sV,sD,sB,Nat.reduceEqDiff,reduceCtorEq,ld25,cl6,qt,qt3,isAlloc,isRead]))
 refine(z58 (r0.mono hxh3 hw) hf hx3.wf).mono ?_
 rintro v H4 ⟨hx4,out,rfl,hot⟩
 obtain⟨a4,c4,cells4,rfl,-⟩:=hot.rep.six
 have n4:=hx4.next
 repeat' (first|(refine z0n ?_;simp only[sD,sB,Nat.reduceEqDiff,reduceCtorEq,cl23]))
 refine(zpr (s:=sTypeE) (t:=atmT s) (a:=none) (c:=0) (u:=t) (a':=a4) (c':=c4) hx4.wf).mono ?_
 rintro v H5 ⟨b5,rfl,g5,lo5,hi5,hx5⟩
 have hr:RepS H5 (fun n=>n=b5∨(H3.next≤n∧n < H4.next)) (typeT s t) (six (typeT s t) (some ⟨b5,0,none⟩) 2):=z4b (by decide) g5 (.inl rfl) hx5.wf (z1t hs) (hot.1.to fun n hn hl=>⟨hx5.keep n hl,.inr hn,by have:=hx5.next;omega⟩)
 have n5:=hx5.next
 repeat' (first|(refine z0n ?_;simp only[sD,sB,Nat.reduceEqDiff,reduceCtorEq,cl63]))
 refine(zbd (a:=some ⟨b5,0,none⟩) (c:=2) hr (fun n hn=>by rcases hn with rfl|hn<;>omega) hx5.wf).mono ?_
 rintro v H6 ⟨hx6,rfl,hr6⟩
 have hx46:=(hx23.trans hx4).trans (hx5.trans hx6)
 have gs6:=hx46.get hw2 gs
 have n6:=hx6.next
 repeat' (first|(refine EvC.ret ?_)|(refine z0n ?_;simp only[sD,sB,Nat.reduceEqDiff,Nat.reduceAdd,one,reduceCtorEq,st39,gs6]))
 refine z0a rfl (by simp only[sB,Nat.reduceEqDiff,reduceCtorEq];rfl) (by simp only[sB,Nat.reduceAdd,cutC,ld39]) ⟨(hx2.trans hx46).pt (i:=H.next+1) (by omega) gs6 _,_,rfl,some ⟨b5,0,none⟩,2,rfl,hr6.to fun n hn hl=>?_⟩
 have hn2:H.next+2≤n∧n < H6.next:=by rcases hn with rfl|hn<;>omega
 exact⟨by rw[get_put,if_neg (by omega)],⟨by omega,by rw[z06];omega⟩,by rw[z06];omega⟩
set_option maxHeartbeats 4000000 in
theorem zq0 {s:ByteArray}{H:Heap}(hs:s.size≤maxLen) (hw:H.wf) :
  EvF Tryz.prog okT 48 [.string s] H fun v H'=>HX H H'∧∃out,v=.agg ⟨out⟩∧RSaid H' (Rg H.next H'.next) (.ball (resT s)) out:=by
 refine EvF.enter rfl Tryz.func48 (by decide) rfl ?_
 (repeat refine EvC.seq ?_);refine EvC.reg ?_;simp only[sA,initTm,dAlloc,zr39]
 obtain⟨H2,e2,hx2,gs,hn2,hw2⟩:=new1 hw (.row said0 39)
 simp only[e2]
 clear e2
 (repeat refine EvC.seq ?_);refine EvC.reg ?_;simp only[sB,Nat.reduceEqDiff,Nat.reduceAdd,Value.cells,reduceCtorEq,layC,cl25,z4g]
 refine(zib hw2).mono ?_
 rintro v H3 ⟨rfl,hx3⟩
 have n3:=hx3.next
 repeat' (first|(refine z0k ?_;simp only[sB,Nat.reduceEqDiff,Nat.reduceAdd,one,reduceCtorEq,cl24,cl63]))
 obtain⟨H4,e4,hx4,g4,hn4,hw4⟩:=new1 hx3.wf (.row (six (atmT s) none 0) 25)
 simp only[e4]
 refine(F_ev (cs:=six (atmT s) none 0) (by decide) (by decide) (ld1 g4 rfl) rfl hw4).mono ?_
 rintro v H5 ⟨rfl,g5,n5',hx5⟩
 have hr:RepS H5 (fun n=>n=H4.next+2) (resT s) (six (resT s) (some ⟨H4.next+2,0,none⟩) 1):=RepS.row (t:=resT s) (z5d (by decide)) rfl g5 rfl (hx5.wf _ _ g5) (Nat.le_refl _) (Nat.le_refl _) (by decide) fun j hj=>by
  match j,hj with
  |0,_=>exact z1t hs
 skip
 refine(zbd (a:=some ⟨H4.next+2,0,none⟩) (c:=1) hr (fun n hn=>by omega) hx5.wf).mono ?_
 rintro v H6 ⟨hx6,rfl,hr6⟩
 have hx26:=((hx3.trans hx4).trans hx5).trans hx6
 have gs6:=hx26.get hw2 gs
 have n6:=hx6.next
 repeat' (first|(refine EvC.ret ?_)|(refine z0k ?_;simp only[sB,Nat.reduceAdd,one,st39,gs6]))
 refine z0a rfl (by simp only[sB,Nat.reduceEqDiff,reduceCtorEq];rfl) (by simp only[sB,Nat.reduceAdd,cutC,ld39]) ⟨(hx2.trans hx26).pt (i:=H.next) (by omega) gs6 _,_,rfl,some ⟨H4.next+2,0,none⟩,1,rfl,hr6.to fun n hn hl=>?_⟩
 exact⟨by rw[get_put,if_neg (by omega)],⟨by omega,by rw[z06];omega⟩,by rw[z06];omega⟩
def noneB:Er→Bool
 |.ok=>true
 |_=>false
theorem zgy {e:Er}{S:Nat→Prop}{cs:List Value}{H:Heap}(h:RSaid H S e cs) (hw:H.wf):EvF Tryz.prog okT 41 [.agg ⟨cs⟩] H fun v H'=>v=.bool (noneB e)∧HX H H':=by
 cases e with
 |ok =>
  obtain rfl:cs=said0:=h
  refine EvF.enter rfl Tryz.func41 (by decide) rfl ?_
  (repeat refine EvC.seq ?_);refine EvC.reg ?_;simp only[sB,initTm,dBox,Value.cells,one]
  obtain⟨H2,e2,hx2,gs,hn2,hw2⟩:=new1 hw (.row said0 39)
  simp only[e2]
  have qs:=rowS gs
  repeat' (first|refine EvC.seq ?_|(refine EvC.ret ?_)|(refine EvC.reg ?_;simp only[sB,Nat.reduceEqDiff,reduceCtorEq,zcl,ld37,zck,ld4,qs,z0i]))
  exact z04 rfl (by simp only[sB,Nat.reduceEqDiff,reduceCtorEq];rfl) ⟨rfl,hx2⟩
 |num e =>
  obtain⟨he,rfl⟩:=h
  refine EvF.enter rfl Tryz.func41 (by decide) rfl ?_
  (repeat refine EvC.seq ?_);refine EvC.reg ?_;simp only[sB,initTm,dBox,Value.cells,one]
  obtain⟨H2,e2,hx2,gs,hn2,hw2⟩:=new1 hw (.row [.int .i64 e,.bool false,.int .i64 0,.string ByteArray.empty,.string ByteArray.empty,.int .u64 0,.int .i64 0,.slice none 0 0] 39)
  simp only[e2]
  have qs:=rowS gs
  repeat' (first|refine EvC.seq ?_|(refine EvC.ret ?_)|(refine EvC.reg ?_;simp only[sB,Nat.reduceEqDiff,reduceCtorEq,zcl,ld37,qs,z0j he,Bool.false_eq_true]))
  exact z04 rfl (by simp only[sB,Nat.reduceEqDiff,reduceCtorEq];rfl) ⟨rfl,hx2⟩
 |ball t =>
  obtain⟨a,c,rfl,-⟩:=h
  refine EvF.enter rfl Tryz.func41 (by decide) rfl ?_
  (repeat refine EvC.seq ?_);refine EvC.reg ?_;simp only[sB,initTm,dBox,Value.cells,one]
  obtain⟨H2,e2,hx2,gs,hn2,hw2⟩:=new1 hw (.row (saidT 0 true t a c) 39)
  simp only[e2]
  have qs:=rowS gs
  repeat' (first|refine EvC.seq ?_|(refine EvC.ret ?_)|(refine EvC.reg ?_;simp only[sB,Nat.reduceEqDiff,reduceCtorEq,zcl,ld37,zck,ld4,qs,z0i,Bool.not_true]))
  exact z04 rfl (by simp only[sB,Nat.reduceEqDiff,reduceCtorEq];rfl) ⟨rfl,hx2⟩
noncomputable def madeE (t:Tm):Er:=match bodyF (SizeOf.sizeOf t+1) t with
 |none=>.ball (typeT sCallable t)
 |some b=>if 4000 < cnt (toldB b) 0 then .ball (resT sNodes) else .ok
def RReadyEnd (H:Heap) (t:Tm) (v:Value) (H':Heap):Prop:=HX H H'∧∃out sd,v=.tuple ⟨[.agg ⟨out⟩,.agg ⟨sd⟩]⟩∧OB H' 30 25 (Rg H.next H'.next) (readyS t).1 out∧RSaid H' (Rg H.next H'.next) (readyS t).2 sd
theorem zoe {H:Heap}{b o j n m:Nat}{l:List Value}(h:H.load ⟨b,o,none⟩ m=some l) (hj:j+n≤m):H.load ⟨b,o+j,none⟩ n=some ((l.drop j).take n):=by
 have hl:=zfy h
 unfold Heap.load at h ⊢
 simp only at h ⊢
 cases hc:H.cells b with
 |none=>rw[hc] at h;cases h
 |some cs =>
  rw[hc] at h
  simp only at h ⊢
  split at h
  ·rename_i hb
   cases h
   have e1:(((cs.drop o).take m).drop j).take n=(cs.drop (o+j)).take n:=by
    rw[List.drop_take,List.take_take,List.drop_drop,Nat.min_eq_left (by omega)]
   rw[e1,if_pos]
   rw[←e1,Nat.beq_eq]
   simp only[List.length_take,List.length_drop] at hl ⊢
   omega
  ·cases h
set_option maxHeartbeats 4000000 in
theorem zgz {H:Heap}(hw:H.wf):EvF Tryz.prog okT 43 [] H fun v H'=>HX H H'∧∃out,v=.agg ⟨out⟩∧RSaid H' (Rg H.next H'.next) (.ball (atmT sInst)) out:=by
 refine EvF.enter rfl Tryz.func43 (by decide) rfl ?_
 (repeat refine EvC.seq ?_);refine EvC.reg ?_;simp only[sA,initTm,dAlloc,zr39]
 obtain⟨H2,e2,hx2,gs,hn2,hw2⟩:=new1 hw (.row said0 39)
 simp only[e2]
 clear e2
 (repeat refine EvC.seq ?_);refine EvC.reg ?_;simp only[sB,Nat.reduceEqDiff,reduceCtorEq,cl25,cl63]
 refine(zib hw2).mono ?_
 rintro v H3 ⟨rfl,hx3⟩
 refine(zbd (S:=fun _=>False) (z1t (by decide)) (fun _ h=>h.elim) hx3.wf).mono ?_
 rintro v H4 ⟨hx4,rfl,hr4⟩
 have k24:=hx3.trans hx4
 have gs:=k24.get hw2 gs
 have n4:=k24.next
 repeat' (first|(refine EvC.ret ?_)|(refine z0k ?_;simp only[sB,Nat.reduceAdd,one,st39,gs]))
 have hz:=(hx2.trans k24).pt (i:=H.next) (Nat.le_refl _) gs (some (.row (saidT 0 true (atmT sInst) none 0) 39))
 refine z0a rfl (by simp only[sB,reduceCtorEq];rfl) (by simp only[sB,Nat.reduceAdd,cutC,ld39]) ⟨hz,_,rfl,none,0,rfl,hr4.to fun n hn hl=>hn.elim⟩
def RStripEnd (H0 H:Heap) (R:ByteArray × Tm × Er) (v:Value) (H':Heap):Prop:=HX H H'∧∃a c sd,v=.tuple ⟨[.string R.1,.agg ⟨six R.2.1 a c⟩,.agg ⟨sd⟩]⟩∧RepT H0 R.2.1 (six R.2.1 a c)∧RSaid H' (Rg H.next H'.next) R.2.2 sd∧checkS R.2.1=0
theorem z4q {P:Program}{ok:Ok}{fn:Func}{tm:Tr Value}{H:Heap}{K:Value→Heap→Prop}{q a b:Tmp}{t t':TypeId}{ad bd:Addr}{v u y:Value}(h:fn.results.toList=[.tmp q,.cell a t,.cell b t']) (hy:tm.get q=some y) (ha:tm.get a=some (.pointer (some ad))) (hv:dLoad P t (.pointer (some ad)) H=some (.val v H))
  (hb:tm.get b=some (.pointer (some bd))) (hu:dLoad P t' (.pointer (some bd)) H=some (.val u H)) (hk:K (.tuple ⟨[y,v,u]⟩) H):Ex.leave P ok fn K .ret ⟨tm,[],H⟩:=by
 refine EvV.now (v:=.tuple ⟨[y,v,u]⟩) ?_ hk
 have key:∀{t:TypeId}{ad:Addr}{v:Value},dLoad P t (.pointer (some ad)) H=some (.val v H)→dload P t ad H=some v:=fun {t ad v} hd=>by
  unfold dLoad at hd
  simp only at hd
  cases h1:dload P t ad H with
  |none=>rw[h1] at hd;simp at hd
  |some w=>rw[h1] at hd;simp at hd;rw[hd]
 simp [dres,h,dresL,dres1,hy,ha,hb,key hv,key hu]
set_option maxHeartbeats 8000000 in
theorem zdl {m:ByteArray}{t:Tm}{cs:List Value}{H0 H:Heap}(r0:RepT H0 t cs) (hx0:HX H0 H) (hw0:H0.wf) (hc:checkS t=0) (hw:H.wf):EvF Tryz.prog okT 40 [.string m,.agg ⟨cs⟩] H (RStripEnd H0 H (stripS m t)):=by
 obtain⟨a,c,cells,rfl,-⟩:=r0.six
 refine EvF.enter rfl Tryz.func40 (by decide) rfl ?_
 (repeat refine EvC.seq ?_);refine EvC.reg ?_;simp (disch:=first|omega|rfl) only[sB,initTm,dBox,dAlloc,Value.cells,one,reduceCtorEq,zr25,zr39]
 obtain⟨H2,e2,hx2,g3,g5,g6,hn2,hw2⟩:=zmu hw (.row (six t a c) 25) (.row zero6 25) (.row said0 39)
 simp only[e2]
 clear e2
 have g6:H2.get (H.next+1+1)=some (.row said0 39):=g6
 (repeat refine EvC.seq ?_)
 refine EvC.join (fun st=>∃tm H' u m' a c,st=⟨tm,[],H'⟩∧(m',u,Er.ok)=stripS m t∧checkS u=0∧tm.get 0=some (.string m')∧tm.get 3=some (.pointer (some ⟨H.next,0,none⟩))∧tm.get 5=some (.pointer (some ⟨H.next+1,0,none⟩))∧tm.get 6=some (.pointer (some ⟨H.next+1+1,0,none⟩)) ∧
  H'.get H.next=some (.row (six u a c) 25)∧H'.get (H.next+1)=some (.row zero6 25)∧H'.get (H.next+1+1)=some (.row said0 39)∧RepT H0 u (six u a c)∧HX H H') ?_ ?_
 ·refine EvC.block (EvC.loop (fun k st=>∃tm H' u m' a c,st=⟨tm,[],H'⟩∧SizeOf.sizeOf u < k∧stripF k m' u=stripS m t∧checkS u=0∧tm.get 0=some (.string m')∧tm.get 3=some (.pointer (some ⟨H.next,0,none⟩))∧tm.get 5=some (.pointer (some ⟨H.next+1,0,none⟩))∧tm.get 6=some (.pointer (some ⟨H.next+1+1,0,none⟩)) ∧
   H'.get H.next=some (.row (six u a c) 25)∧H'.get (H.next+1)=some (.row zero6 25)∧H'.get (H.next+1+1)=some (.row said0 39)∧RepT H0 u (six u a c)∧HX H H') ?_ (SizeOf.sizeOf t+1) _ ?_)
  rotate_left
  ·exact⟨_,_,t,m,a,c,rfl,Nat.lt_succ_self _,rfl,hc,(by simp only[sG,reduceCtorEq]),(by simp only[sG,Nat.reduceEqDiff,reduceCtorEq]),(by simp only[sG,Nat.reduceEqDiff,reduceCtorEq]),(by simp only[sG,Nat.reduceEqDiff,reduceCtorEq]),g3,g5,g6,r0,hx2⟩
  rintro k st ⟨tm,H',u,m',a,c,rfl,hk,hR,hcu,t0,t3,t5,t6,g3,g5,g6,ru,hx⟩
  have hw':=hx.wf
  have q3:=row6 g3
  (repeat refine EvC.seq ?_);refine EvC.reg ?_;simp (disch:=first|omega|rfl) only[sB,ld25,cl42,t3,q3]
  refine(z7n (s:=sCol) (ru.mono (hx0.trans hx) hw0) hw').mono ?_
  rintro v H3 ⟨rfl,hx3⟩
  have g3:=hx3.get hw' g3
  have g5:=hx3.get hw' g5
  have g6:=hx3.get hw' g6
  have hx:=hx.trans hx3
  have w3:=hx.wf
  have n3:=hx.next
  have q3:=row6 g3
  have lg6:=w3 _ _ g6
  obtain⟨k,rfl⟩:∃n,k=n+1:=⟨k - 1,by omega⟩
  try simp (disch:=first|omega|rfl) only[]
  by_cases hi:isF u sCol
  rotate_left
  ·rw[stripF,if_neg hi] at hR
   repeat' (first|(refine EvC.exit ?_;try simp only[sB,decide_eq_false hi])|(refine EvC.condF ?_ ?_;simp (disch:=first|omega|rfl) only[sB,Nat.reduceEqDiff,decide_eq_false hi];refine z07 ?_))
   exact⟨_,_,u,m',a,c,rfl,hR,hcu,(by simp only[sG,reduceCtorEq,t0]),(by simp only[sG,Nat.reduceEqDiff,t3]),(by simp only[sG,Nat.reduceEqDiff,t5]),(by simp only[sG,Nat.reduceEqDiff,t6]),g3,g5,g6,ru,hx⟩
  rw[stripF,if_pos hi] at hR
  refine EvC.condT (by simp (disch:=first|omega|rfl) only[sB,Nat.reduceEqDiff,decide_eq_true hi]) ?_;(try refine EvC.skip ?_);(try simp only[z00,z01])
  obtain⟨x,y,hxy⟩:∃x y,u.args=[x,y]:=by
   match hl:u.args,hi.2.2 with
   |[x,y],_=>exact⟨x,y,rfl⟩
  have ex:u.at 0=x:=by unfold Tm.at;rw[hxy];rfl
  have ey:u.at 1=y:=by unfold Tm.at;rw[hxy];rfl
  have x0:u.args[0]'(by rw[hxy];simp)=x:=by simp [hxy]
  have y1:u.args[1]'(by rw[hxy];simp)=y:=by simp [hxy]
  obtain⟨a0,c0,cells0,hcs,-,-,-,-,-,rl⟩:=ru.six
  obtain⟨-,-,-,-,-,rfl,rfl⟩:=z47 hcs
  obtain⟨b,o,a1,c1,rfl,hld0,hr0⟩:=rl.el (i:=0) (by rw[hxy];simp)
  obtain⟨b',o',a2,c2,e2,hld1,hr1⟩:=rl.el (i:=1) (by rw[hxy];simp)
  cases e2
  rw[x0] at hld0 hr0
  rw[y1] at hld1 hr1
  simp only[Nat.zero_mul,Nat.add_zero,Nat.one_mul] at hld0 hld1
  have hcx:=z0s hcu (u:=x) (by rw[hxy];simp)
  have hcy:=z0s hcu (u:=y) (by rw[hxy];simp)
  have hsy:SizeOf.sizeOf y < SizeOf.sizeOf u:=z0d (by rw[hxy];simp)
  rw[ex,ey] at hR
  have hxl:u.args.length=2:=hi.2.2
  have l0:=(hx0.trans hx).load hw0 hld0
  have l1:=(hx0.trans hx).load hw0 hld1
  have p0:H3.load ⟨b,o,none⟩ 1=some [.int .i64 x.kind]:=zoe (j:=0) l0 (by decide)
  have p1:H3.load ⟨b,o+1,none⟩ 1=some [.string x.name]:=zoe (j:=1) l0 (by decide)
  (repeat refine EvC.seq ?_)
  refine EvC.block ?_
  by_cases k1:x.kind=1
  ·rw[if_pos k1] at hR
   (repeat refine EvC.seq ?_);refine EvC.reg ?_;simp (disch:=first|omega|rfl) only[sB,Nat.reduceEqDiff,Int.reduceToNat,z0g,ld23,z0f,ld3,t3,q3,hxl,p0,iz23,Nat.zero_mul,z0i k1]
   refine EvC.condT (by simp (disch:=first|omega|rfl) only[sB,Nat.reduceEqDiff]) ?_;(try refine EvC.skip ?_);(try simp only[z00,z01])
   (repeat refine EvC.seq ?_);refine EvC.drw [([],some 1),([(0,0),(2,1)],some 3),([],some 4),([],none)] (by kernel_rfl) ?_;simp (disch:=first|omega|rfl) only[sD,sA,Nat.reduceAdd,cl43]
   have hb:=(HX.refl w3).bump 5
   refine(zgz hb.wf).mono ?_
   rintro v H6 ⟨hx6,out,rfl,hsd⟩
   obtain⟨en,eb,et,ea,ec,rfl⟩:=hsd.cells
   have hx36:=hb.trans hx6
   have q36:=row6 (hx36.get w3 g3)
   have g5:=hx36.get w3 g5
   have g6:=hx36.get w3 g6
   have n6:H3.next+5≤H6.next:=hx6.next
   repeat' (first|(refine EvC.ret ?_;try simp only[z05,z03])|(refine z0n ?_;simp (disch:=first|omega|rfl) only[sV,sD,sB,Nat.reduceEqDiff,Nat.reduceAdd,one,reduceCtorEq,ld25,st25,st39,t3,t5,t6,q3,q36,g5,g6,neu,neu',isAlloc,isRead]))
   have hz:=((hx.trans hx36).pt (i:=H.next+1) (by omega) g5 (some (.row (six u (some ⟨b,o,none⟩) c) 25))).pt (i:=H.next+1+1) (by omega) (by rw[get_put,if_neg (by omega)];exact g6) (some (.row (saidT en eb et ea ec) 39))
   rw[←hR]
   refine z4q rfl (by simp only[sB,Nat.reduceEqDiff];rfl) (by simp only[sB,Nat.reduceEqDiff,t5];rfl) (by simp only[sB,Nat.reduceAdd,cutC,ld25,neu]) (by simp only[sB,Nat.reduceEqDiff,t6];rfl) (by simp only[sB,Nat.reduceEqDiff,Nat.reduceAdd,cutC,ld39]) ⟨hz,_,_,_,rfl,ru,hsd.to fun n hn hl=>?_,hcu⟩
   have a1:H3.next+5≤n:=hn.1
   exact⟨by rw[get_put,if_neg (by omega),get_put,if_neg (by omega)],⟨by omega,by rw[z06,z06];exact hl⟩,by rw[z06,z06];exact hl⟩
  rw[if_neg k1] at hR
  (repeat refine EvC.seq ?_);refine EvC.reg ?_;simp (disch:=first|omega|rfl) only[sB,Nat.reduceEqDiff,Int.reduceToNat,z0g,ld23,z0f,ld3,t3,q3,hxl,p0,iz23,Nat.zero_mul,z0j k1]
  refine EvC.condF (by simp (disch:=first|omega|rfl) only[sB,Nat.reduceEqDiff]) ?_;(try refine EvC.skip ?_);(try simp only[z00,z01])
  by_cases k2:x.kind=2
  rotate_left
  ·rw[if_neg k2] at hR
   (repeat refine EvC.seq ?_);refine EvC.reg ?_;simp (disch:=first|omega|rfl) only[sB,Nat.reduceEqDiff,Int.reduceToNat,z0g,ld23,z0f,ld3,t3,q3,hxl,p0,iz23,Nat.zero_mul,z1w k2]
   refine EvC.condT (by simp (disch:=first|omega|rfl) only[sB,Nat.reduceEqDiff]) ?_;(try refine EvC.skip ?_);(try simp only[z00,z01])
   (repeat refine EvC.seq ?_);refine EvC.drw [([(1,0),(2,0),(3,0),(4,0)],some 5),([(0,0),(6,1)],some 7),([],some 8),([],none)] (by kernel_rfl) ?_;simp (disch:=first|omega|rfl) only[sD,sB,Nat.reduceEqDiff,Nat.reduceAdd,reduceCtorEq,Int.reduceToNat,ld25,z0g,ld23,cl28,isAlloc,isRead,t3,q3,hxl,l0,iz23,Nat.zero_mul]
   have hb:=(HX.refl w3).bump 9
   refine(zbe (s:=sAtomW) (by decide) ((hr0.mono (hx0.trans hx) hw0).mono hb w3) (few6 hcx) hb.wf).mono ?_
   rintro v H6 ⟨hx6,out,rfl,hsd⟩
   obtain⟨en,eb,et,ea,ec,rfl⟩:=hsd.cells
   have hx36:=hb.trans hx6
   have q36:=row6 (hx36.get w3 g3)
   have g5:=hx36.get w3 g5
   have g6:=hx36.get w3 g6
   have n6:H3.next+9≤H6.next:=hx6.next
   repeat' (first|(refine EvC.ret ?_;try simp only[z05,z03])|(refine z0n ?_;simp (disch:=first|omega|rfl) only[sV,sD,sB,Nat.reduceEqDiff,Nat.reduceAdd,one,reduceCtorEq,ld25,st25,st39,t3,t5,t6,q3,q36,g5,g6,neu,neu',isAlloc,isRead]))
   have hz:=((hx.trans hx36).pt (i:=H.next+1) (by omega) g5 (some (.row (six u (some ⟨b,o,none⟩) c) 25))).pt (i:=H.next+1+1) (by omega) (by rw[get_put,if_neg (by omega)];exact g6) (some (.row (saidT en eb et ea ec) 39))
   rw[←hR]
   refine z4q rfl (by simp only[sB,Nat.reduceEqDiff];rfl) (by simp only[sB,Nat.reduceEqDiff,t5];rfl) (by simp only[sB,Nat.reduceAdd,cutC,ld25,neu]) (by simp only[sB,Nat.reduceEqDiff,t6];rfl) (by simp only[sB,Nat.reduceEqDiff,Nat.reduceAdd,cutC,ld39]) ⟨hz,_,_,_,rfl,ru,hsd.to fun n hn hl=>?_,hcu⟩
   have a1:H3.next+9≤n:=hn.1
   exact⟨by rw[get_put,if_neg (by omega),get_put,if_neg (by omega)],⟨by omega,by rw[z06,z06];exact hl⟩,by rw[z06,z06];exact hl⟩
  rw[if_pos k2] at hR
  (repeat refine EvC.seq ?_);refine EvC.reg ?_;simp (disch:=first|omega|rfl) only[sB,Nat.reduceEqDiff,Int.reduceToNat,z0g,ld23,z0f,ld3,t3,q3,hxl,p0,iz23,Nat.zero_mul,z1h k2]
  refine EvC.condF (by simp (disch:=first|omega|rfl) only[sB,Nat.reduceEqDiff]) ?_;(try refine EvC.skip ?_);(try simp only[z00,z01])
  (repeat refine EvC.seq ?_);refine EvC.reg ?_;simp (disch:=first|omega|rfl) only[sB,Nat.reduceEqDiff,Int.reduceToNat,z0g,ld23,z18,ld9,t3,q3,hxl,p1,iz23,Nat.zero_mul]
  refine EvC.reg ?_;simp (disch:=first|omega|rfl) only[sB,Nat.reduceEqDiff,Nat.reduceAdd,one,reduceCtorEq,Int.reduceToNat,ld25,z0g,ld23,st25,t3,q3,hxl,l1,g3,iz23,Nat.one_mul]
  have hz:=hx.pt (i:=H.next) (Nat.le_refl _) g3 (some (.row (six y a2 c2) 25))
  exact⟨k,Nat.lt_succ_self _,_,_,y,x.name,a2,c2,rfl,by omega,hR,hcy,(by simp only[sG,reduceCtorEq]),(by simp only[sG,Nat.reduceEqDiff,reduceCtorEq,t3]),(by simp only[sG,Nat.reduceEqDiff,reduceCtorEq,t5]),(by simp only[sG,Nat.reduceEqDiff,reduceCtorEq,t6]),by rw[get_put,if_pos rfl],by rw[get_put,if_neg (by omega)];exact g5,by rw[get_put,if_neg (by omega)];exact g6,hr1,hz⟩
 ·rintro st ⟨tm,H',u,m',a,c,rfl,hR,hcu,t0,t3,t5,t6,g3,g5,g6,ru,hx⟩
  have q3:=row6 g3
  simp only[z00]
  have hxb:=hx.bump 6
  have hz:=(hxb.pt (i:=H.next+1) (by omega) (show Heap.get ⟨H'.next+6,H'.t⟩ (H.next+1)=_ from g5) (some (.row (six u a c) 25))).pt (i:=H.next+1+1) (by omega) (by rw[get_put,if_neg (by omega)];exact g6) (some (.row said0 39))
  (repeat refine EvC.seq ?_);refine EvC.drw [([(0,0),(1,0),(3,0)],some 4),([(2,0)],some 5),([],none)] (by kernel_rfl) ?_;simp (disch:=first|omega|rfl) only[sV,sD,sB,Nat.reduceEqDiff,Nat.reduceAdd,Value.cells,one,reduceCtorEq,layC,ld25,st25,st39,bd39,isAlloc,isRead,t0,t3,t5,t6,q3,g5,g6,neu,neu']
  repeat' (first|(refine EvC.ret ?_))
  rw[←hR]
  refine z4q rfl (by simp only[sG,Nat.reduceEqDiff]) (by simp only[sB,Nat.reduceEqDiff,t5];rfl) (by simp only[sB,Nat.reduceAdd,cutC,ld25,neu]) (by simp only[sB,Nat.reduceEqDiff,t6];rfl) (by simp only[sB,Nat.reduceEqDiff,Nat.reduceAdd,cutC,ld39]) ⟨hz,_,_,_,rfl,ru,rfl,hcu⟩
set_option maxHeartbeats 8000000 in
theorem zev {m:Nat}:∀{t:Bdy}{cs cs':List Value}{H:Heap},SizeOf.sizeOf t < m→RepB H t cs→RepB H t cs'→H.wf →
  EvF Tryz.prog okT 51 [.agg ⟨cs⟩,.agg ⟨cs'⟩] H fun v H'=>v=.bool true∧HX H H':=by
 induction m with
 |zero=>intro t cs cs' H h;omega
 |succ m ih =>
 intro t cs cs' H hsz r r' hw
 obtain⟨ts,a,c,cells,rfl,hk,rt,rl⟩:=r.inv
 obtain⟨ts',a',c',cells',rfl,-,rt',rl'⟩:=r'.inv
 obtain⟨ta,tc,cellst,rfl,-⟩:=rt.inv
 obtain⟨ta',tc',cellst',rfl,-⟩:=rt'.inv
 show EvF Tryz.prog okT 51 [.agg ⟨eightT t.kind t.term ta tc a t.sub.length c⟩,.agg ⟨eightT t.kind t.term ta' tc' a' t.sub.length c'⟩] H _
 refine EvF.enter rfl Tryz.func51 (by decide) rfl ?_
 (repeat refine EvC.seq ?_);refine EvC.reg ?_;simp (disch:=first|omega|rfl) only[sB,initTm,dBox,Nat.reduceEqDiff,Value.cells,one,reduceCtorEq]
 obtain⟨H2,e2,hx2,gp,gq,hnx,hw2⟩:=new2 hw (.row (eightT t.kind t.term ta tc a t.sub.length c) 30) (.row (eightT t.kind t.term ta' tc' a' t.sub.length c') 30)
 simp only[e2]
 have q1:=row8 gp
 have q2:=row8 gq
 clear e2
 (repeat refine EvC.seq ?_);refine EvC.reg ?_;simp (disch:=first|omega|rfl) only[sB,Nat.reduceEqDiff,reduceCtorEq,z4h,ld25,cl12,q1,q2]
 refine(z52 (rt.mono hx2 hw) (rt'.mono hx2 hw) hw2).mono ?_
 rintro v H3 ⟨rfl,hx3⟩
 have gp3:=hx3.get hw2 gp
 have gq3:=hx3.get hw2 gq
 have q1:=row8 gp3
 have q2:=row8 gq3
 have hx:=hx2.trans hx3
 have hm:=rl.cap
 have hl:=rl.len
 have hmx:t.sub.length≤9223372036854775807:=Nat.le_trans hl (Nat.le_trans hm (by decide))
 repeat' (first|refine EvC.seq ?_|refine EvC.block ?_|(refine EvC.skip ?_;try simp only[z00])|(refine EvC.reg ?_;simp (disch:=first|omega|rfl) only[sB,Nat.reduceEqDiff,reduceCtorEq,z1x,ld3,z2r,ld28,ln28,q1,q2,zi2 rfl,z1h rfl,Bool.not_true,Bool.false_eq_true])|(refine EvC.condF ?_ ?_;simp (disch:=first|omega|rfl) only[sB,Nat.reduceEqDiff,reduceCtorEq];refine z07 ?_))
 refine EvC.loop (fun k st=>∃tm H' i,st=⟨tm,[],H'⟩∧k=t.sub.length - i∧i≤t.sub.length ∧ 
   tm.get 2=some (.pointer (some ⟨H.next,0,none⟩))∧tm.get 3=some (.pointer (some ⟨H.next+1,0,none⟩))∧tm.get 6=some (.int .i64 (i:Nat)) ∧
   H'.get H.next=some (.row (eightT t.kind t.term ta tc a t.sub.length c) 30)∧H'.get (H.next+1)=some (.row (eightT t.kind t.term ta' tc' a' t.sub.length c') 30)∧HX H H') ?_ t.sub.length _ ?_
 ·rintro k st ⟨tm,H',i,rfl,rfl,hi,t2,t3,t6,gp',gq',hx'⟩
  have q1:=row8 gp'
  have q2:=row8 gq'
  by_cases hlt:i < t.sub.length
  ·obtain⟨b,o,rfl,hld,hr1⟩:=rl.el hlt
   obtain⟨b',o',rfl,hld',hr2⟩:=rl'.el hlt
   obtain⟨ua,uc,va,vc,hc1⟩:=hr1.eight
   obtain⟨ua',uc',va',vc',hc2⟩:=hr2.eight
   rw[hc1] at hr1 hld
   rw[hc2] at hr2 hld'
   have hld1:=hx'.load hw hld
   have hld2:=hx'.load hw hld'
   repeat' (first|refine EvC.seq ?_|refine EvC.block ?_|(refine EvC.skip ?_;try simp only[z00])|(refine EvC.reg ?_;simp (disch:=first|omega|rfl) only[sB,Nat.reduceEqDiff,z2r,ld28,ln28,t2,t6,q1,decl hlt])|(refine EvC.drw [([(0,0),(1,0),(2,0),(3,0),(4,0),(5,0),(6,0),(7,0),(8,0),(9,0)],some 10),([(11,1)],none)] ?_ ?_;kernel_rfl;simp (disch:=first|omega|rfl) only[sD,sB,Nat.reduceEqDiff,Nat.reduceAdd,reduceCtorEq,z2r,ld28,ia28,ld30,cl51,t2,t3,t6,q1,q2,hld1,hld2,isAlloc,isRead])|(refine EvC.condT ?_ ?_;simp (disch:=first|omega|rfl) only[sB,Nat.reduceEqDiff];refine z07 ?_))
   have hb:=hx'.bump 12
   have hs:=t.size _ (List.getElem_mem hlt)
   refine(ih (t:=t.sub[i]) (by omega) (hr1.mono hb hw) (hr2.mono hb hw) hb.wf).mono ?_
   rintro v H4 ⟨rfl,hx4⟩
   have hx5:=hb.trans hx4
   repeat' (first|refine EvC.seq ?_|(refine EvC.skip ?_;try simp only[sA])|(refine EvC.reg ?_;simp (disch:=first|omega|rfl) only[sB,Nat.reduceEqDiff,Bool.not_true,t6,z0c])|(refine z0n ?_;simp (disch:=first|omega|rfl) only[sD,sB,Nat.reduceEqDiff,isAlloc,isRead])|(refine EvC.condF ?_ ?_;simp (disch:=first|omega|rfl) only[sB,Nat.reduceEqDiff];refine z07 ?_))
   exact⟨t.sub.length - (i+1),by omega,_,_,i+1,rfl,rfl,by omega,(by simp only[sG,Nat.reduceEqDiff,t2]),(by simp only[sG,Nat.reduceEqDiff,t3]),(by simp only[sB,Nat.reduceEqDiff];rfl),hx4.get hb.wf gp',hx4.get hb.wf gq',hx5⟩
  ·repeat' (first|refine EvC.seq ?_|(refine EvC.exit ?_;try simp only[sB])|(refine EvC.ret ?_)|(refine EvC.reg ?_;simp (disch:=first|omega|rfl) only[sB,Nat.reduceEqDiff,z2r,ld28,ln28,t2,t6,q1,decn hlt])|(refine EvC.condF ?_ ?_;simp (disch:=first|omega|rfl) only[sB,Nat.reduceEqDiff];refine z07 ?_))
   exact z04 rfl (by simp only[sG,Nat.reduceEqDiff]) ⟨rfl,hx'⟩
 ·exact⟨_,_,0,rfl,rfl,by omega,(by simp only[sG,Nat.reduceEqDiff,reduceCtorEq]),(by simp only[sG,Nat.reduceEqDiff,reduceCtorEq]),(by simp only[sB,Nat.reduceEqDiff,reduceCtorEq];rfl),gp3,gq3,hx⟩
abbrev mark8:List Value:=[.int .i64 (-1),.int .i64 0,.string ByteArray.empty,.string ByteArray.empty,.int .u64 0,.int .i64 0,.slice none 0 0,.slice none 0 0]
abbrev mark1:List Value:=[.int .i64 (-1),.string ByteArray.empty,.string ByteArray.empty,.int .u64 0,.int .i64 0,.slice none 0 0]
set_option maxHeartbeats 8000000 in
theorem zl6 {m:Nat}:∀{t:Bdy}{cs:List Value}{S:Nat→Prop}{H:Heap},SizeOf.sizeOf t < m→OB H 30 25 S t cs→(∀n,S n→n < H.next)→H.wf →
  EvF Tryz.prog okT 10 [.agg ⟨cs⟩] H fun _ H'=>HK S H H':=by
 induction m with
 |zero=>intro t cs S H h;omega
 |succ m ih =>
 intro u cs S H hsz hob hS hw
 cases hob with
 |leaf _ k t ts hk rs top =>
  obtain⟨ta,tc,cellst,rfl,-,-,-,-,-,rl⟩:=rs.rep.six
  have hmx:t.args.length≤9223372036854775807:=rl.max
  show EvF Tryz.prog okT 10 [.agg ⟨eightT k t ta tc none 0 0⟩] H _
  refine EvF.enter rfl Tryz.func10 (by decide) rfl ?_
  (repeat refine EvC.seq ?_);refine EvC.reg ?_;simp (disch:=first|omega|rfl) only[sB,initTm,dBox,Value.cells,one]
  obtain⟨H2,e2,hx2,gp,hn2,hw2⟩:=new1 hw (.row (eightT k t ta tc none 0 0) 30)
  simp only[e2]
  clear e2
  (repeat refine EvC.seq ?_);refine EvC.reg ?_;simp (disch:=first|omega|rfl) only[sA]
  refine EvC.meet (fun st=>∃tm H',st=⟨tm,[],H'⟩∧tm.get 1=some (.pointer (some ⟨H.next,0,none⟩))∧H'.get H.next=some (.row (eightT k t ta tc none 0 0) 30)∧HK S H H') ?_ ?_
  ·rcases top with he|⟨b,c,cells,hts,gb,hSb,hlb,hcl,hone⟩
   ·have he0:t.args.length=0:=by rw[he];rfl
    have hd':decide ((0:Int) < (t.args.length:Int))=false:=decide_eq_false (by omega)
    have q1:=row8 gp
    refine EvC.block (EvC.loop1 ?_)
    repeat' (first|refine EvC.seq ?_|(refine EvC.exit ?_;try simp only[sB,reduceCtorEq])|(refine EvC.reg ?_;simp (disch:=first|omega|rfl) only[sB,Nat.reduceEqDiff,Nat.reduceAdd,reduceCtorEq,z4h,z0g,ld23,ln23,q1,hd'])|(refine EvC.condF ?_ ?_;simp (disch:=first|omega|rfl) only[sB,Nat.reduceEqDiff,reduceCtorEq];refine z07 ?_))
    exact⟨_,_,rfl,(by simp only[sG,Nat.reduceEqDiff,reduceCtorEq]),gp,hx2.hk S⟩
   ·obtain⟨-,-,-,-,-,hta,htc⟩:=z47 hts
    subst hta htc
    refine EvC.block (EvC.loop (fun k' st=>∃tm H' i cells',st=⟨tm,[],H'⟩∧k'=t.args.length - i∧i≤t.args.length∧tm.get 1=some (.pointer (some ⟨H.next,0,none⟩))∧tm.get 2=some (.int .i64 (i:Nat)) ∧
     H'.get H.next=some (.row (eightT k t (some ⟨b,0,none⟩) tc none 0 0) 30)∧H'.get b=some (.row cells' 25)∧t.args.length*6≤cells'.length∧HK S H H') ?_ t.args.length _ ?_)
    ·rintro k' st ⟨tm,H',i,cells',rfl,rfl,hi,t1,t2,gp',gb',hcl',hk'⟩
     have q1:=row8 gp'
     by_cases hlt:i < t.args.length
     ·have hle:i*6+6≤cells'.length:=by have:=mul6 hlt;omega
      repeat' (first|refine EvC.seq ?_|refine EvC.block ?_|(refine EvC.skip ?_;try simp only[z00])|(refine EvC.reg ?_;simp (disch:=first|omega|rfl) only[sB,Nat.reduceEqDiff,Nat.reduceAdd,Value.cells,one,Nat.reduceLeDiff,layC,z4h,z0g,ld23,ln23,bd25,ia23,st25,t1,t2,q1,decl hlt,gb',hle,z0c])|(refine EvC.condT ?_ ?_;simp (disch:=first|omega|rfl) only[sB,Nat.reduceEqDiff];refine z07 ?_))
      refine⟨t.args.length - (i+1),by omega,_,_,i+1,Hb.splice cells' (i*6) mark1,rfl,rfl,by omega,(by simp only[sG,Nat.reduceEqDiff,t1]),(by simp only[sB,Nat.reduceEqDiff];rfl),by rw[get_put,if_neg (by omega)];exact gp',by rw[get_put,if_pos rfl],by rw[z1l (vs:=mark1) hle];exact hcl',hk'.put (.inl hSb) (hk'.wf _ _ gb') _⟩
     ·repeat' (first|refine EvC.seq ?_|(refine EvC.exit ?_;try simp only[sB,reduceCtorEq])|(refine EvC.reg ?_;simp (disch:=first|omega|rfl) only[sB,Nat.reduceEqDiff,Nat.reduceAdd,z4h,z0g,ld23,ln23,t1,t2,q1,decn hlt])|(refine EvC.condF ?_ ?_;simp (disch:=first|omega|rfl) only[sB,Nat.reduceEqDiff];refine z07 ?_))
      exact⟨_,_,rfl,(by simp only[sG,Nat.reduceEqDiff,t1]),gp',hk'⟩
    ·exact⟨_,_,0,cells,rfl,rfl,by omega,(by simp only[sG,Nat.reduceEqDiff,reduceCtorEq]),(by simp only[sB,Nat.reduceEqDiff,reduceCtorEq];rfl),gp,hx2.get hw gb,hcl,hx2.hk S⟩
  ·rintro st ⟨tm,H',rfl,t1,gp',hk'⟩
   have q1:=row8 gp'
   have hd':decide ((0:Int) < ((0:Nat):Int))=false:=rfl
   (repeat refine EvC.seq ?_);refine EvC.reg ?_;simp (disch:=first|omega|rfl) only[sA]
   refine EvC.block (EvC.loop1 ?_)
   repeat' (first|refine EvC.seq ?_|(refine EvC.exit ?_;try simp only[sB])|(refine EvC.reg ?_;simp (disch:=first|omega|rfl) only[sB,Nat.reduceEqDiff,z2r,ld28,ln28,t1,q1,hd'])|(refine EvC.condF ?_ ?_;simp (disch:=first|omega|rfl) only[sB,Nat.reduceEqDiff];refine z07 ?_))
   exact z1e rfl hk'
 |node _ k t ts l b c cells Si hk rs he hlc hcm gb hSb hlb hcl hel hnb hsub hone =>
  obtain⟨ta,tc,cellst,rfl,-,-,-,-,-,rl⟩:=rs.rep.six
  have hmx:l.length≤9223372036854775807:=Nat.le_trans hlc (Nat.le_trans hcm (by decide))
  show EvF Tryz.prog okT 10 [.agg ⟨eightT k t ta tc (some ⟨b,0,none⟩) l.length c⟩] H _
  refine EvF.enter rfl Tryz.func10 (by decide) rfl ?_
  (repeat refine EvC.seq ?_);refine EvC.reg ?_;simp (disch:=first|omega|rfl) only[sB,initTm,dBox,Value.cells,one]
  obtain⟨H2,e2,hx2,gp,hn2,hw2⟩:=new1 hw (.row (eightT k t ta tc (some ⟨b,0,none⟩) l.length c) 30)
  simp only[e2]
  clear e2
  (repeat refine EvC.seq ?_);refine EvC.reg ?_;simp (disch:=first|omega|rfl) only[sA]
  refine EvC.meet (fun st=>∃tm,st=⟨tm,[],H2⟩∧tm.get 1=some (.pointer (some ⟨H.next,0,none⟩))) ?_ ?_
  ·have he0:t.args.length=0:=by rw[he];rfl
   have hd':decide ((0:Int) < (t.args.length:Int))=false:=decide_eq_false (by omega)
   have q1:=row8 gp
   refine EvC.block (EvC.loop1 ?_)
   repeat' (first|refine EvC.seq ?_|(refine EvC.exit ?_;try simp only[sB,reduceCtorEq])|(refine EvC.reg ?_;simp (disch:=first|omega|rfl) only[sB,Nat.reduceEqDiff,Nat.reduceAdd,reduceCtorEq,z4h,z0g,ld23,ln23,q1,hd'])|(refine EvC.condF ?_ ?_;simp (disch:=first|omega|rfl) only[sB,Nat.reduceEqDiff,reduceCtorEq];refine z07 ?_))
   exact⟨_,rfl,(by simp only[sG,Nat.reduceEqDiff,reduceCtorEq])⟩
  ·rintro st ⟨tm,rfl,t1⟩
   (repeat refine EvC.seq ?_);refine EvC.reg ?_;simp (disch:=first|omega|rfl) only[sA]
   have sl:=hx2.get hw gb
   refine EvC.block (EvC.loop (fun k' st=>∃tm H' i cells',st=⟨tm,[],H'⟩∧k'=l.length - i∧i≤l.length∧tm.get 1=some (.pointer (some ⟨H.next,0,none⟩))∧tm.get 3=some (.int .i64 (i:Nat)) ∧
     H'.get H.next=some (.row (eightT k t ta tc (some ⟨b,0,none⟩) l.length c) 30)∧H'.get b=some (.row cells' 30)∧l.length*8≤cells'.length ∧
     (∀j,i≤j→j < l.length→(cells'.drop (j*8)).take 8=(cells.drop (j*8)).take 8)∧(∀j n,i≤j→j < l.length→Si j n→n < H.next→H'.get n=H.get n)∧HK S H H') ?_ l.length _ ?_)
   ·rintro k' st ⟨tm,H',i,cells',rfl,rfl,hi,t1,t3,gp',gb',hcl',hsame,hkeep,hk'⟩
    have q1:=row8 gp'
    by_cases hlt:i < l.length
    ·have hu:=List.getElem?_eq_getElem hlt
     have hob1:=hel i _ hu
     obtain⟨ua,uc,va,vc,hc1⟩:=hob1.rep.eight
     have hld:H'.load ⟨b,i*8,none⟩ 8=some (eightT l[i].kind l[i].term ua uc va l[i].sub.length vc):=by
      unfold Heap.load Heap.cells
      simp only[gb',hsame i (Nat.le_refl _) hlt,hc1]
      rfl
     have hle:i*8+8≤cells'.length:=by omega
     repeat' (first|refine EvC.seq ?_|refine EvC.block ?_|(refine EvC.skip ?_;try simp only[z00])|(refine EvC.reg ?_;simp (disch:=first|omega|rfl) only[sB,Nat.reduceEqDiff,z2r,ld28,ln28,ia28,ld30,cl10,t1,t3,q1,decl hlt,hld])|(refine EvC.condT ?_ ?_;simp (disch:=first|omega|rfl) only[sB,Nat.reduceEqDiff];refine z07 ?_))
     have hs:SizeOf.sizeOf l[i] < SizeOf.sizeOf (Bdy.mk k t l):=Bdy.size _ _ (List.getElem_mem hlt)
     rw[hc1] at hob1
     have hob2:OB H' 30 25 (Si i) l[i] _:=hob1.to (fun n hn hl=>⟨hkeep i n (Nat.le_refl _) hlt hn hl,Nat.lt_of_lt_of_le hl hk'.next⟩) fun n hn=>hn
     refine(ih (t:=l[i]) (by omega) hob2 (fun n hn=>Nat.lt_of_lt_of_le (hS n (hsub i n hlt hn)) hk'.next) hk'.wf).mono ?_
     rintro v H5 hk5
     have gp5:=hk5.get hk'.wf gp' (fun hq=>by have:=hS _ (hsub i _ hlt hq);omega)
     have gb5:=hk5.get hk'.wf gb' (fun hq=>hnb i hlt hq)
     have q2:=row8 gp5
     repeat' (first|(refine EvC.reg ?_;simp (disch:=first|omega|rfl) only[sB,Nat.reduceEqDiff,Nat.reduceAdd,Value.cells,one,Nat.reduceLeDiff,layC,z2r,ld28,ia28,bd30,st30,t1,t3,q2,gb5,hle,z0c]))
     refine⟨l.length - (i+1),by omega,_,_,i+1,Hb.splice cells' (i*8) mark8,rfl,rfl,by omega,(by simp only[sG,Nat.reduceEqDiff,t1]),(by simp only[sB,Nat.reduceEqDiff];rfl),by rw[get_put,if_neg (by omega)];exact gp5,by rw[get_put,if_pos rfl],by rw[z1l (vs:=mark8) hle];exact hcl',fun j hij hj=>?_,fun j n hij hj hn hl=>?_,(hk'.trans (hk5.sub fun n _ hn=>hsub i n hlt hn)).put (.inl hSb) (hk5.wf _ _ gb5) _⟩
     ·rw[z1q (s:=8) hle rfl (.inr (by omega))];exact hsame j (by omega) hj
     ·have hnb':n≠b:=fun e=>hnb j hj (e ▸ hn)
      rw[get_put,if_neg hnb',hk5.keep n (Nat.lt_of_lt_of_le hl hk'.next) (fun hq=>by have:=hone i j n hlt hj hq hn;omega)];exact hkeep j n (by omega) hj hn hl
    ·repeat' (first|refine EvC.seq ?_|(refine EvC.exit ?_;try simp only[sB])|(refine EvC.reg ?_;simp (disch:=first|omega|rfl) only[sB,Nat.reduceEqDiff,z2r,ld28,ln28,t1,t3,q1,decn hlt])|(refine EvC.condF ?_ ?_;simp (disch:=first|omega|rfl) only[sB,Nat.reduceEqDiff];refine z07 ?_))
     exact z1e rfl hk'
   ·exact⟨_,_,0,cells,rfl,rfl,by omega,(by simp only[sG,Nat.reduceEqDiff,t1]),(by simp only[sB];rfl),gp,sl,hcl,fun _ _ _=>rfl,fun j n _ hj hn hl=>hx2.keep n hl,hx2.hk S⟩
end Go.Proofs.hq
end

section
namespace Go.Hb
open Go Go.RowKit
def dNilK (v:Value) (H:Heap):Option Dr:=match v with
 |.pointer (some a)=>some (.val (.pointer (some a)) H)
 |.func (.func f) a b=>some (.val (.func (.func f) a b) H)
 |_=>none
theorem zbf {P:Program}{H:Heap}{d:Option Tmp}{x:Operand}{ty:TypeId}{pos:String}{af:Array Edge}{g:Option (Nat × Bool)}{ρ:Operand→Value}:dop P ⟨d,.nilCheck x,ty,pos,af,g⟩ ρ H=dNilK (ρ x) H:=_root_.id rfl
theorem z96 {H:Heap}{a:Addr}:dNilK (.pointer (some a)) H=some (.val (.pointer (some a)) H):=_root_.id rfl
end Go.Hb
namespace Go.Proofs.hq
open Go Go.RowKit Go.Hb
variable {ok:Ok}
set_option maxRecDepth 10000
attribute [local irreducible] LX LG EL STG SOP SGO SGD SAL SRD SEF SEG SLK SCK ES
theorem zq1:isPtr Tryz.prog 68=true:=by kernel_rfl
theorem zq2 {H:Heap}{x y:Operand}{a:Addr}:dBin Tryz.prog .neq 68 x y (.pointer (some a)) (.pointer none) H=some (.val (.bool true) H):=by
 simp only[dBin,dnil,zq1,nilEq,if_true]
theorem zq3:taZ Tryz.prog 37=some (.int .i64 0):=by kernel_rfl
theorem zh0:taZ Tryz.prog 68=some (.pointer none):=by kernel_rfl
theorem zrq {n:Nat}{H:Heap}:dBin Tryz.prog .eql 34 (.tmp n) (.const .nilIface) .nilIface .nilIface H=some (.val (.bool true) H):=by kernel_rfl
set_option maxHeartbeats 8000000 in
theorem zl7 {e:Er}{v:Value}{S:Nat→Prop}{cs:List Value}{H:Heap}(he:RepE H e v) (h:RSaid H S e cs) (hw:H.wf):EvF Tryz.prog okT 11 [v,.agg ⟨cs⟩] H fun v H'=>v=.bool true∧HX H H':=by
 cases e with
 |ok =>
  obtain rfl:cs=said0:=h
  obtain rfl:v=.nilIface:=he
  refine EvF.enter rfl Tryz.func11 (by decide) rfl ?_
  (repeat refine EvC.seq ?_);refine EvC.reg ?_;simp only[sB,initTm,dBox,Value.cells,one,reduceCtorEq]
  obtain⟨H2,e2,hx2,gs,hn2,hw2⟩:=new1 hw (.row said0 39)
  simp only[e2]
  have qs:=rowS gs
  repeat' (first|refine EvC.seq ?_|(refine EvC.skip ?_;try simp only[z00])|(refine EvC.ret ?_)|(refine EvC.reg ?_;simp only[sB,Nat.reduceEqDiff,reduceCtorEq,zck,ld4,zcl,ld37,qs,z1h rfl,zrq])|(refine EvC.condF ?_ ?_;simp only[sB,Nat.reduceEqDiff,reduceCtorEq];refine z07 ?_))
  exact z04 rfl (by simp only[sG,Nat.reduceEqDiff,reduceCtorEq]) ⟨rfl,hx2⟩
 |num e =>
  obtain⟨hne,rfl⟩:=h
  obtain rfl:v=.iface 37 (.int .i64 e):=he
  refine EvF.enter rfl Tryz.func11 (by decide) rfl ?_
  (repeat refine EvC.seq ?_);refine EvC.reg ?_;simp only[sB,initTm,dBox,Value.cells,one,reduceCtorEq]
  obtain⟨H2,e2,hx2,gs,hn2,hw2⟩:=new1 hw (.row [.int .i64 e,.bool false,.int .i64 0,.string ByteArray.empty,.string ByteArray.empty,.int .u64 0,.int .i64 0,.slice none 0 0] 39)
  simp only[e2]
  have qs:=rowS gs
  repeat' (first|refine EvC.seq ?_|(refine EvC.skip ?_;try simp only[z00])|(refine EvC.ret ?_;try simp only[z05,z03])|(refine EvC.reg ?_;simp only[sB,Nat.reduceEqDiff,reduceCtorEq,zck,ld4,zcl,ld37,qs,z1w hne,z17,z94 zq3,z0i rfl])|(refine EvC.condT ?_ ?_;simp only[sB,Nat.reduceEqDiff,reduceCtorEq];refine z07 ?_)|(refine EvC.condF ?_ ?_;simp only[sB,Nat.reduceEqDiff,reduceCtorEq];refine z07 ?_))
  exact z04 rfl (by simp only[sG,Nat.reduceEqDiff,reduceCtorEq]) ⟨rfl,hx2⟩
 |ball t =>
  obtain⟨a,c,rfl,hr⟩:=h
  obtain⟨p,a',c',rfl,gp,hr'⟩:=he
  refine EvF.enter rfl Tryz.func11 (by decide) rfl ?_
  (repeat refine EvC.seq ?_);refine EvC.reg ?_;simp only[sB,initTm,dBox,Value.cells,one,reduceCtorEq]
  obtain⟨H2,e2,hx2,gs,hn2,hw2⟩:=new1 hw (.row (saidT 0 true t a c) 39)
  simp only[e2]
  have qs:=rowS gs
  have qp:=row6 (hx2.get hw gp)
  repeat' (first|refine EvC.seq ?_|(refine EvC.reg ?_;simp only[sB,Nat.reduceEqDiff,reduceCtorEq,zck,ld4,qs,z17,z94 zh0])|(refine EvC.drw [([(0,0),(1,0),(2,0),(3,0),(4,0),(5,0),(6,0),(7,0),(8,0),(9,0),(10,0),(11,0)],some 12),([(13,1),(14,1)],none)] ?_ ?_;kernel_rfl;simp only[sD,sB,Nat.reduceEqDiff,Nat.reduceAdd,reduceCtorEq,zji,ld25,zqm,cl12,qs,qp,zq2,zbf,z96,isAlloc,isRead])|(refine EvC.condT ?_ ?_;simp only[sB,Nat.reduceEqDiff,reduceCtorEq];refine z07 ?_))
  have hb:HX H ⟨H2.next+15,H2.t⟩:=hx2.bump 15
  have hS:RepT H t (six t a c):=hr.rep
  refine(z52 (hr'.mono hb hw) (hS.mono hb hw) hb.wf).mono ?_
  rintro v H3 ⟨rfl,hx3⟩
  repeat' (first|(refine EvC.ret ?_;try simp only[z05,z03])|(refine z0n ?_;simp only[sD,sB,Nat.reduceEqDiff,reduceCtorEq,zi2 rfl,isAlloc,isRead]))
  exact z04 rfl (by simp only[sG,Nat.reduceEqDiff,reduceCtorEq]) ⟨rfl,hb.trans hx3⟩
end Go.Proofs.hq
end

section
namespace Go.Proofs.hq
open Go Go.RowKit Go.Hb
variable {ok:Ok}
set_option maxRecDepth 10000
attribute [local irreducible] LX LG EL STG SOP SGO SGD SAL SRD SEF SEG SLK SCK ES
section
variable {f:Int→Int}
abbrev ren (f:Int→Int) (t:Tm):Tm:=sub (fun n=>varT (f n)) t
theorem zbg {t:Tm}(h:t.kind=1):ren f t=varT (f t.var):=z4n h
theorem z4r {t:Tm}(h:t.kind≠1):ren f t=.mk t.kind t.name t.num t.bits t.var (t.args.map (ren f)):=zgm h
theorem zl8:∀(m:Nat) {t:Tm},SizeOf.sizeOf t < m→Fine t→nd (ren f t)=nd t
 |0,t,h,_=>by omega
 |m+1,t,h,hf=>by
  by_cases k:t.kind=1
  ·rw[zbg k]
   have h1:nd t=1:=by rw[z1m,z6j hf k];rfl
   rw[h1];rfl
  ·rw[z1m (ren f t),z1m t,show (ren f t).args=t.args.map (ren f) by rw[z4r k];rfl]
   have go:∀l:List Tm,(∀u∈l,SizeOf.sizeOf u < m∧Fine u)→nd.ndL (l.map (ren f))=nd.ndL l:=by
    intro l
    induction l with
    |nil=>intro _;rfl
    |cons x l ih =>
     intro hl
     rw[List.map_cons,nd.ndL,nd.ndL,zl8 m (hl x (by simp)).1 (hl x (by simp)).2,ih fun u hu=>hl u (by simp [hu])]
   rw[go t.args fun u hu=>⟨by have:=z0d hu;omega,hf.args u hu⟩]
theorem zl9:∀(m:Nat) {t:Tm},SizeOf.sizeOf t < m→Fine t→occ (ren f t)=(occ t).map f
 |0,t,h,_=>by omega
 |m+1,t,h,hf=>by
  by_cases k:t.kind=1
  ·rw[zbg k,z3p,z3p t,z6j hf k,if_pos k];rfl
  ·rw[z3p (ren f t),z3p t,if_neg k,show (ren f t).args=t.args.map (ren f) by rw[z4r k];rfl,if_neg (by rw[z4r k];exact k)]
   have go:∀l:List Tm,(∀u∈l,SizeOf.sizeOf u < m∧Fine u)→occL (l.map (ren f))=(occL l).map f:=by
    intro l
    induction l with
    |nil=>intro _;rfl
    |cons x l ih =>
     intro hl
     rw[List.map_cons,occL,occL,zl9 m (hl x (by simp)).1 (hl x (by simp)).2,ih fun u hu=>hl u (by simp [hu]),List.map_append]
   simpa using go t.args fun u hu=>⟨by have:=z0d hu;omega,hf.args u hu⟩
theorem zh1 {l:List Tm}(h:∀u∈l,Fine u):occL (l.map (ren f))=(occL l).map f:=by
 induction l with
 |nil=>rfl
 |cons x l ih=>rw[List.map_cons,occL,occL,zl9 _ (Nat.lt_succ_self _) (h x (by simp)),ih fun u hu=>h u (by simp [hu]),List.map_append]
theorem z59 (l:List Tm):plainL l=l.map (ren (plcZ (uniq (occL l)))):=_root_.id rfl
theorem z97 {t:Tm}(hf:∀n,0≤f n) (h:checkS t=0):checkS (ren f t)=0:=by
 obtain⟨h1,h2⟩:=z0h.1 h
 refine z0h.2 ⟨?_,zgp (fun n _=>zb5 (hf n)) _ t (Nat.lt_succ_self _) h2⟩
 have h3:=zd6 _ t (Nat.lt_succ_self _) 0 h1
 have h4:=zl8 (f:=f) _ (Nat.lt_succ_self _) h2
 rw[z6m _ _ (Nat.lt_succ_self _) 0 (by omega)];omega
theorem _root_.Go.Hb.FL.repD {H:Heap}{T:TypeId}{S:Nat→Prop}{l:List Tm}{a:Option Addr}{c:Nat}(h:FL H T S l a c) (hw:H.wf):∃cells,∀G:Heap,(∀n,S n→n < H.next→G.get n=H.get n)→RepL G l a c cells:=by
 cases h with
 |nil=>exact⟨fun _=>[],fun G _=>⟨Nat.le_refl _,Nat.zero_le _,fun _=>⟨rfl,rfl⟩,fun i ad hi=>by simp at hi,fun i t h=>by simp at h⟩⟩
 |row _ _ b c cells Si ai ci h1 h2 h3 h4 h5 h6 h7 h8 h9 h10 h11 =>
  refine⟨fun i=>(cells.drop (i*6)).take 6,fun G hk=>RepL.of_row (by rw[hk b h7 (hw b _ h3)];exact h3) (fun i hi=>rfl) (fun i t ht=>?_) h1 h2⟩
  show RepT G t ((cells.drop (i*6)).take 6)
  rw[h5 i t ht]
  exact RepF.rep (T:=T) (S:=Si i) ⟨ai i,ci i,rfl,h6 i t ht,(h11 i t ht).heap (fun n hn hl=>hk n (h9 i n (List.getElem?_eq_some_iff.1 ht).1 hn) hl) hw⟩
theorem _root_.Go.Hb.FL.elS {H:Heap}{T:TypeId}{S:Nat→Prop}{l:List Tm}{a:Option Addr}{c:Nat}(h:FL H T S l a c) (hw:H.wf) {i:Nat}(hi:i < l.length):∃b o a1 c1,a=some ⟨b,o,none⟩∧H.load ⟨b,o+i*6,none⟩ 6=some (six l[i] a1 c1)∧RepS H S l[i] (six l[i] a1 c1):=by
 obtain⟨cells,hc⟩:=h.repD hw
 have he:=List.getElem?_eq_getElem hi
 obtain⟨b,o,rfl,hl,hr⟩:=(hc H fun _ _ _=>rfl).at he
 obtain⟨a1,c1,-,h3,-⟩:=hr.six
 rw[h3] at hl
 exact⟨b,o,a1,c1,rfl,hl,fun G hG=>by rw[←h3];exact(hc G hG).rep i _ he⟩
end
abbrev sClause:ByteArray:=⟨#[99,108,97,117,115,101]⟩
structure Cls where
 head:Tm
 body:Bdy
 vars:Int
def zeroC:Cls:=⟨zeroT,zeroB,0⟩
noncomputable def madeC (h r:Tm):Cls:=⟨(plainL [h,r]).getD 0 zeroT,(readyS ((plainL [h,r]).getD 1 zeroT)).1,(uniq (occL (plainL [h,r]))).length⟩
noncomputable def readB (m:ByteArray) (h r:Tm):ByteArray × Cls × Er :=
 if h.kind=1 then (ByteArray.empty,zeroC,.ball (atmT sInst))
 else if isNum h then (ByteArray.empty,zeroC,.ball (typeT sCallable h))
 else match bodyF (SizeOf.sizeOf r+1) r with
  |none=>(ByteArray.empty,zeroC,.ball (typeT sCallable r))
  |some b=>if 400 < cnt h 0+cnt (toldB b) 0 then (ByteArray.empty,zeroC,.ball (resT sClause)) else (m,madeC h r,.ok)
noncomputable def readH (m:ByteArray) (h r:Tm):ByteArray × Cls × Er :=
 match stripS m h with
 |(m2,h2,.ok)=>readB m2 h2 r
 |(_,_,e)=>(ByteArray.empty,zeroC,e)
noncomputable def headOf (t:Tm):Tm:=if isF t sNck then t.at 0 else t
noncomputable def restOf (t:Tm):Tm:=if isF t sNck then t.at 1 else atmT sTrue
noncomputable def readS (m:ByteArray) (t:Tm):ByteArray × Cls × Er :=
 if checkS t≠0 then (ByteArray.empty,zeroC,.num (checkS t))
 else match stripS m t with
  |(m1,t1,.ok)=>readH m1 (headOf t1) (restOf t1)
  |(_,_,e)=>(ByteArray.empty,zeroC,e)
abbrev fift (h:Tm) (ha:Option Addr) (hc:Nat) (k:Int) (t:Tm) (ta:Option Addr) (tc:Nat) (a:Option Addr) (n c:Nat) (v:Int):List Value :=
 [.int .i64 h.kind,.string h.name,.string h.num,.int .u64 h.bits,.int .i64 h.var,.slice ha h.args.length hc,.int .i64 k,.int .i64 t.kind,.string t.name,.string t.num,.int .u64 t.bits,.int .i64 t.var,.slice ta t.args.length tc,.slice a n c,.int .i64 v]
abbrev zero15:List Value:=[.int .i64 0,.string ByteArray.empty,.string ByteArray.empty,.int .u64 0,.int .i64 0,.slice none 0 0,.int .i64 0,.int .i64 0,.string ByteArray.empty,.string ByteArray.empty,.int .u64 0,.int .i64 0,.slice none 0 0,.slice none 0 0,.int .i64 0]
def RepC (H:Heap) (S:Nat→Prop) (c:Cls) (cs:List Value):Prop:=∃ha hc ta tc a k,cs=fift c.head ha hc c.body.kind c.body.term ta tc a c.body.sub.length k c.vars∧RepS H S c.head (six c.head ha hc)∧OB H 30 25 S c.body (eightT c.body.kind c.body.term ta tc a c.body.sub.length k)
theorem RepC.zero {H:Heap}{S:Nat→Prop}:RepC H S zeroC zero15:=⟨none,0,none,0,none,0,rfl,RepS.leaf zb7 rfl (Nat.zero_le _) fun _=>rfl,OB.nil (by decide)⟩
theorem RepC.to {H H2:Heap}{S S2:Nat→Prop}{c:Cls}{cs:List Value}(h:RepC H S c cs) (hk:∀n,S n→n < H.next→H2.get n=H.get n∧S2 n∧n < H2.next) (hs:∀n,S n→S2 n):RepC H2 S2 c cs:=by
 obtain⟨ha,hc,ta,tc,a,k,h1,h2,h3⟩:=h
 exact⟨ha,hc,ta,tc,a,k,h1,h2.to hk,h3.to (fun n hn hl=>⟨(hk n hn hl).1,(hk n hn hl).2.2⟩) hs⟩
theorem z1y {H:Heap}{p:Nat}{T:TypeId}{x0 x1 x2 x3 x4 x5 x6 x7 x8 x9 xa xb xc xd xe:Value}(h:H.get p=some (Blk.row [x0,x1,x2,x3,x4,x5,x6,x7,x8,x9,xa,xb,xc,xd,xe] T)) :
  H.load ⟨p,0,none⟩ 6=some [x0,x1,x2,x3,x4,x5]∧H.load ⟨p,6,none⟩ 8=some [x6,x7,x8,x9,xa,xb,xc,xd]∧H.load ⟨p,14,none⟩ 1=some [xe]∧H.load ⟨p,0,none⟩ 15=some [x0,x1,x2,x3,x4,x5,x6,x7,x8,x9,xa,xb,xc,xd,xe]:=by
 refine⟨?_,?_,?_,?_⟩<;>simp only[Heap.load,Heap.cells,h]<;>rfl
def ReadEnd (H:Heap) (R:ByteArray × Cls × Er) (v:Value) (H':Heap):Prop:=HX H H'∧∃cs ev,v=.tuple ⟨[.string R.1,.agg ⟨cs⟩,ev]⟩∧RepC H' (Rg H.next H'.next) R.2.1 cs∧RepES H' (Rg H.next H'.next) R.2.2 ev
theorem zof:isIface Tryz.prog 34=true:=by kernel_rfl
theorem zla {H:Heap}{x y:Operand}{T:TypeId}{v:Value}:dBin Tryz.prog .neq 34 x y (.iface T v) .nilIface H=some (.val (.bool true) H):=by
 simp only[dBin,dnil,zof,nilEq,if_true]
theorem zrr {H:Heap}{x y:Operand}{T:TypeId}{v:Value}:dBin Tryz.prog .eql 34 x y (.iface T v) .nilIface H=some (.val (.bool false) H):=by
 simp only[dBin,dnil,zof,nilEq,if_true]
theorem zlb {n:Nat}{H:Heap}:dBin Tryz.prog .neq 34 (.tmp n) (.const .nilIface) .nilIface .nilIface H=some (.val (.bool false) H):=by kernel_rfl
theorem zrs {n:Nat}{H:Heap}:dBin Tryz.prog .eql 34 (.tmp n) (.const .nilIface) .nilIface .nilIface H=some (.val (.bool true) H):=by kernel_rfl
theorem RepE.some {H:Heap}{e:Er}{v:Value}(h:RepE H e v) (he:e≠.ok):∃T x,v=.iface T x:=by
 cases e with
 |ok=>exact absurd rfl he
 |num n=>exact⟨_,_,h⟩
 |ball t=>obtain⟨p,a,c,h,-⟩:=h;exact⟨_,_,h⟩
theorem z74:checkS (atmT sTrue)=0:=by kernel_rfl
theorem z2y {H G:Heap}{R:ByteArray × Cls × Er}{e:Er}{ev:Value}{tm:Tr Value}{cs5:List Value}{lo hi:Nat}(hR:R=(ByteArray.empty,zeroC,e)) (hx:HX H G) (g5:G.get (H.next+1)=some (.row cs5 32)) (t4:tm.get 4=some (.string ByteArray.empty)) (t5:tm.get 5=some (.pointer (some ⟨H.next+1,0,none⟩))) (t6:tm.get 6=some ev)
  (he:RepES G (Rg lo hi) e ev) (h1:H.next+2≤lo) (h2:hi≤G.next):Ex.leave Tryz.prog okT Tryz.f7 (ReadEnd H R) .ret ⟨tm,[],G.put (H.next+1) (some (.row zero15 32))⟩:=by
 have hz:=hx.pt (i:=H.next+1) (by omega) g5 (some (.row zero15 32))
 subst hR
 refine z4m rfl t4 t5 (by simp only[sB,Nat.reduceAdd,cutC,ld32]) t6 ⟨hz,_,_,rfl,RepC.zero,he.to fun n hn hl=>?_⟩
 have:=hn.1
 exact⟨by rw[get_put,if_neg (by omega)],⟨by omega,by rw[z06];exact hl⟩,by rw[z06];exact hl⟩
set_option maxHeartbeats 16000000 in
theorem zlc {m:ByteArray}{t:Tm}{cs:List Value}{H:Heap}(r0:RepT H t cs) (hw:H.wf):EvF Tryz.prog okT 7 [.string m,.agg ⟨cs⟩] H (ReadEnd H (readS m t)):=by
 obtain⟨a,c,cells,rfl,-⟩:=r0.six
 refine EvF.enter rfl Tryz.func7 (by decide) rfl ?_
 (repeat refine EvC.seq ?_);refine EvC.reg ?_;simp (config := { maxSteps := 2000000 }) (disch:=first|omega|rfl) only[sB,initTm,dBox,dAlloc,Value.cells,one,reduceCtorEq,zr32]
 obtain⟨H2,e2,hx2,g3,g5,hn2,hw2⟩:=new2 hw (.row (six t a c) 25) (.row zero15 32)
 simp only[e2]
 clear e2
 (repeat refine EvC.seq ?_);refine EvC.reg ?_;simp (config := { maxSteps := 2000000 }) (disch:=first|omega|rfl) only[sA,dAlloc,zr32]
 obtain⟨H3,e3,hx3,g7,hn3,w3⟩:=new1 hw2 (.row zero15 32)
 simp only[e3]
 clear e3
 have g3:=hx3.get hw2 g3
 have g5:=hx3.get hw2 g5
 have hx:=hx2.trans hx3
 have q3:=row6 g3
 (repeat refine EvC.seq ?_);refine EvC.reg ?_;simp (config := { maxSteps := 2000000 }) (disch:=first|omega|rfl) only[sB,Nat.reduceEqDiff,reduceCtorEq,ld25,cl29,q3]
 refine(z2k t _ _ (r0.mono hx hw) w3).mono ?_
 rintro v H4 ⟨rfl,hx4⟩
 have g3:=hx4.get w3 g3
 have g5:=hx4.get w3 g5
 have g7:=hx4.get w3 g7
 have hx:=hx.trans hx4
 have w4:=hx.wf
 have n4:=hx4.next
 have q3:=row6 g3
 have q7:=z1y g7
 try simp (config := { maxSteps := 2000000 }) (disch:=first|omega|rfl) only[]
 by_cases hc:checkS t=0
 rotate_left
 ·have hR:readS m t=(ByteArray.empty,zeroC,.num (checkS t)):=by unfold readS;rw[if_pos hc]
  repeat' (first|refine EvC.seq ?_|(refine EvC.ret ?_;try simp only[z05,z03])|(refine EvC.reg ?_;simp (config := { maxSteps := 2000000 }) (disch:=first|omega|rfl) only[sB,Nat.reduceEqDiff,reduceCtorEq,z1w hc])|(refine EvC.drw (id:=4) [([(0,0),(3,0)],some 4),([(1,0),(2,0),(5,1)],none)] ?_ ?_;kernel_rfl;simp (config := { maxSteps := 2000000 }) (disch:=first|omega|rfl) only[sD,sB,Nat.reduceEqDiff,Nat.reduceAdd,one,reduceCtorEq,ld32,st32,q7,g5,z1b,z93 zkz,isAlloc,isRead,zg5,Bool.and_true])|(refine EvC.condT ?_ ?_;simp (config := { maxSteps := 2000000 }) (disch:=first|omega|rfl) only[sB,Nat.reduceEqDiff,reduceCtorEq];refine z07 ?_))
  exact z2y hR (hx.bump _) g5 (by simp only[sB,Nat.reduceEqDiff,reduceCtorEq];rfl) (by simp only[sG,Nat.reduceEqDiff,reduceCtorEq]) (by simp only[sG,Nat.reduceEqDiff,reduceCtorEq]) (RepES.num (S:=Rg (H.next+2) (H.next+2))) (Nat.le_refl _) (by show H.next+2≤H4.next+_;omega)
 (repeat refine EvC.seq ?_);refine EvC.reg ?_;simp (config := { maxSteps := 2000000 }) (disch:=first|omega|rfl) only[sB,Nat.reduceEqDiff,reduceCtorEq,z1h hc]
 refine EvC.condF (by simp (config := { maxSteps := 2000000 }) (disch:=first|omega|rfl) only[sB,Nat.reduceEqDiff,reduceCtorEq]) ?_;(try refine EvC.skip ?_);(try simp only[z00,z01])
 (repeat refine EvC.seq ?_);refine EvC.reg ?_;simp (config := { maxSteps := 2000000 }) (disch:=first|omega|rfl) only[sB,Nat.reduceEqDiff,reduceCtorEq,ld25,cl30,q3]
 refine(zgw (m:=m) r0 hx hw hc w4).mono ?_
 rintro v H5 ⟨hx5,a1,c1,ev1,rfl,r1,he1,hc1⟩
 have g3:=hx5.get w4 g3
 have g5:=hx5.get w4 g5
 have g7:=hx5.get w4 g7
 have hx5':=hx.trans hx5
 have n5:=hx5.next
 obtain⟨⟨m1,t1,e1⟩,hS⟩:∃R,stripS m t=R:=⟨_,rfl⟩
 rw[hS] at r1 he1 hc1 ⊢
 simp only at r1 he1 hc1
 try simp (config := { maxSteps := 2000000 }) (disch:=first|omega|rfl) only[sB,Nat.reduceEqDiff,Nat.reduceAdd,one,reduceCtorEq,st25,g3]
 obtain⟨H6,e6⟩:∃H6,H5.put H.next (some (.row (six t1 a1 c1) 25))=H6:=⟨_,rfl⟩
 simp only[e6]
 have hx6:HX H H6:=by rw[←e6];exact hx5'.pt (i:=H.next) (Nat.le_refl _) g3 _
 have n6:H6.next=H5.next:=by rw[←e6];rfl
 have k6:∀n,n≠H.next→H6.get n=H5.get n:=fun n hn=>by rw[←e6,get_put,if_neg hn]
 have g3:H6.get H.next=some (.row (six t1 a1 c1) 25):=by rw[←e6,get_put,if_pos rfl]
 have g5:=(k6 _ (by omega)).trans g5
 have g7:=(k6 _ (by omega)).trans g7
 clear e6
 have w6:=hx6.wf
 have he1:RepES H6 (Rg H4.next H5.next) e1 ev1:=he1.to fun n hn hl=>⟨k6 n (by have:=hn.1;omega),hn,by omega⟩
 have q3:=row6 g3
 have q7:=z1y g7
 by_cases ho:e1=.ok
 rotate_left
 ·have hR:readS m t=(ByteArray.empty,zeroC,e1):=by
   unfold readS
   rw[if_neg (fun h=>h hc),hS]
   cases e1 with
   |ok=>exact absurd rfl ho
   |num n=>rfl
   |ball u=>rfl
  obtain⟨T0,x0,rfl⟩:=he1.rep.some ho
  repeat' (first|refine EvC.seq ?_|(refine EvC.ret ?_;try simp only[z05,z03])|(refine EvC.reg ?_;simp (config := { maxSteps := 2000000 }) (disch:=first|omega|rfl) only[sB,Nat.reduceEqDiff,reduceCtorEq,zla])|(refine EvC.drw (id:=7) [([(0,0),(2,0)],some 3),([(1,0),(4,1)],none)] ?_ ?_;kernel_rfl;simp (config := { maxSteps := 2000000 }) (disch:=first|omega|rfl) only[sD,sB,Nat.reduceEqDiff,Nat.reduceAdd,one,reduceCtorEq,ld32,st32,q7,g5,isAlloc,isRead,Bool.and_true])|(refine EvC.condT ?_ ?_;simp (config := { maxSteps := 2000000 }) (disch:=first|omega|rfl) only[sB,Nat.reduceEqDiff,reduceCtorEq];refine z07 ?_))
  exact z2y hR (hx6.bump _) g5 (by simp only[sB,Nat.reduceEqDiff,reduceCtorEq];rfl) (by simp only[sG,Nat.reduceEqDiff,reduceCtorEq]) (by simp only[sG,Nat.reduceEqDiff,reduceCtorEq]) (RepES.to he1 fun n hn hl=>⟨rfl,hn,by show n < H6.next+_;omega⟩) (by omega) (by show _≤H6.next+_;omega)
 subst ho
 obtain rfl:ev1=.nilIface:=he1.rep
 (repeat refine EvC.seq ?_);refine EvC.reg ?_;simp (config := { maxSteps := 2000000 }) (disch:=first|omega|rfl) only[sB,Nat.reduceEqDiff,reduceCtorEq,zlb]
 refine EvC.condF (by simp (config := { maxSteps := 2000000 }) (disch:=first|omega|rfl) only[sB,Nat.reduceEqDiff,reduceCtorEq]) ?_;(try refine EvC.skip ?_);(try simp only[z00,z01])
 (repeat refine EvC.seq ?_)
 refine EvC.meet (fun st=>∃tm G p10 p11,st=⟨tm,[],G⟩∧tm.get 0=some (.string m1)∧tm.get 3=some (.pointer (some ⟨H.next,0,none⟩))∧tm.get 5=some (.pointer (some ⟨H.next+1,0,none⟩))∧tm.get 7=some (.pointer (some ⟨H2.next,0,none⟩)) ∧
  tm.get 10=some (.pointer (some ⟨p10,0,none⟩))∧tm.get 11=some (.pointer (some ⟨p11,0,none⟩))∧G.get p10=some (.row (six t1 a1 c1) 25)∧G.get p11=some (.row (six (atmT sTrue) none 0) 25)∧p10≠p11∧H6.next≤p10∧H6.next≤p11∧HX H6 G) ?_ ?_
 ·refine EvC.drw [([],some 1),([(0,0),(2,0),(3,0)],some 4),([],some 5),([],none)] (by kernel_rfl) ?_;simp (config := { maxSteps := 2000000 }) (disch:=first|omega|rfl) only[sD,sA,Nat.reduceAdd,cl31]
  have hb:=(HX.refl w6).bump 6
  refine(z4a (s:=sTrue) hb.wf).mono ?_
  rintro v H7 ⟨rfl,hx7⟩
  have hx67:=hb.trans hx7
  have q37:=row6 (hx67.get w6 g3)
  have n7:H6.next+6≤H7.next:=hx7.next
  have w7:=hx7.wf
  repeat' (first|(refine z0n ?_;simp (config := { maxSteps := 2000000 }) (disch:=first|omega|rfl) only[sV,sD,sB,dAlloc,Nat.reduceEqDiff,Nat.reduceAdd,one,reduceCtorEq,ld25,st25,zr25,q3,q37,neu,neu',isAlloc,isRead,dalloc]))
  exact⟨_,_,H6.next+2,H6.next+3,rfl,(by simp only[sG,reduceCtorEq]),(by simp only[sG,Nat.reduceEqDiff,reduceCtorEq]),(by simp only[sG,Nat.reduceEqDiff,reduceCtorEq]),(by simp only[sG,Nat.reduceEqDiff,reduceCtorEq]),(by simp only[sG,Nat.reduceEqDiff,reduceCtorEq]),(by simp only[sG,Nat.reduceEqDiff,reduceCtorEq]),by rw[get_put,if_neg (by omega),get_put,if_pos rfl],by rw[get_put,if_pos rfl],by omega,by omega,by omega,
   (((hx67.put (i:=H6.next+2) (by omega) (by omega) _).put (i:=H6.next+3) (by omega) (by show _ < H7.next;omega) _).put (i:=H6.next+2) (by omega) (by show _ < H7.next;omega) _).put (i:=H6.next+3) (by omega) (by show _ < H7.next;omega) _⟩
 ·rintro st ⟨tm,G,p10,p11,rfl,t0,t3,t5,t7,t10,t11,g10,g11,hne,h10,h11,hxG⟩
  simp only[z00]
  have wG:=hxG.wf
  have g3:=hxG.get w6 g3
  have g5:=hxG.get w6 g5
  have g7:=hxG.get w6 g7
  have hxHG:=hx6.trans hxG
  have q3:=row6 g3
  (repeat refine EvC.seq ?_);refine EvC.reg ?_;simp (config := { maxSteps := 2000000 }) (disch:=first|omega|rfl) only[sB,ld25,cl32,t3,q3]
  refine(z7l (s:=sNck) (r1.mono hxHG hw) wG).mono ?_
  rintro v H8 ⟨rfl,hx8⟩
  have g3:=hx8.get wG g3
  have g5:=hx8.get wG g5
  have g7:=hx8.get wG g7
  have g10:=hx8.get wG g10
  have g11:=hx8.get wG g11
  have hxH8:=hxHG.trans hx8
  have q3:=row6 g3
  have w8:=hx8.wf
  have n8:=hx8.next
  have nG:=hxG.next
  try simp (config := { maxSteps := 2000000 }) (disch:=first|omega|rfl) only[]
  refine EvC.join (fun st=>∃tm G ah ch ar cr,st=⟨tm,[],G⟩∧tm.get 0=some (.string m1)∧tm.get 3=some (.pointer (some ⟨H.next,0,none⟩))∧tm.get 5=some (.pointer (some ⟨H.next+1,0,none⟩))∧tm.get 7=some (.pointer (some ⟨H2.next,0,none⟩)) ∧
   tm.get 10=some (.pointer (some ⟨p10,0,none⟩))∧tm.get 11=some (.pointer (some ⟨p11,0,none⟩))∧G.get p10=some (.row (six (headOf t1) ah ch) 25)∧G.get p11=some (.row (six (restOf t1) ar cr) 25) ∧ 
   G.get (H.next+1)=some (.row zero15 32)∧G.get H2.next=some (.row zero15 32)∧RepT H (headOf t1) (six (headOf t1) ah ch)∧RepT H (restOf t1) (six (restOf t1) ar cr)∧checkS (headOf t1)=0∧checkS (restOf t1)=0∧HX H G) ?_ ?_
  ·by_cases hn:isF t1 sNck
   ·obtain⟨x,y,hxy⟩:∃x y,t1.args=[x,y]:=by
     match hl:t1.args,hn.2.2 with
     |[x,y],_=>exact⟨x,y,rfl⟩
    have eh:headOf t1=x:=by unfold headOf;rw[if_pos hn];unfold Tm.at;rw[hxy];rfl
    have er:restOf t1=y:=by unfold restOf;rw[if_pos hn];unfold Tm.at;rw[hxy];rfl
    have x0:t1.args[0]'(by rw[hxy];simp)=x:=by simp [hxy]
    have y1:t1.args[1]'(by rw[hxy];simp)=y:=by simp [hxy]
    obtain⟨a0,c0,cells0,hcs,-,-,-,-,-,rl⟩:=r1.six
    obtain⟨-,-,-,-,-,rfl,rfl⟩:=z47 hcs
    obtain⟨b,o,ax,cx,rfl,hld0,hr0⟩:=rl.el (i:=0) (by rw[hxy];simp)
    obtain⟨b',o',ay,cy,e2,hld1,hr1⟩:=rl.el (i:=1) (by rw[hxy];simp)
    cases e2
    rw[x0] at hld0 hr0
    rw[y1] at hld1 hr1
    simp only[Nat.zero_mul,Nat.add_zero,Nat.one_mul] at hld0 hld1
    have hcx:=z0s hc1 (u:=x) (by rw[hxy];simp)
    have hcy:=z0s hc1 (u:=y) (by rw[hxy];simp)
    have l0:=hxH8.load hw hld0
    have l1:=hxH8.load hw hld1
    have hxl:t1.args.length=2:=hn.2.2
    have nf1:(p10=p11)=False:=eq_false hne
    have nf2:(p11=p10)=False:=eq_false (Ne.symm hne)
    refine EvC.condT (by simp (config := { maxSteps := 2000000 }) (disch:=first|omega|rfl) only[sB,Nat.reduceEqDiff,decide_eq_true hn]) ?_;(try refine EvC.skip ?_);(try simp only[z00,z01])
    have lb:=zb8 hw hld0
    have n56:=hx6.next
    have nf3:(H.next=p10)=False:=by simp;omega
    have nf4:(b=p10)=False:=by simp;omega
    refine EvC.drw [([(0,0),(1,0),(2,0),(3,0)],some 8),([(4,0),(5,0),(6,0),(7,0)],some 9),([],none)] (by kernel_rfl) ?_;simp (config := { maxSteps := 2000000 }) (disch:=first|omega|rfl) only[sV,sD,sB,Nat.reduceEqDiff,Nat.reduceAdd,one,reduceCtorEq,cutC,Int.reduceToNat,ld25,st25,z0g,ld23,isAlloc,isRead,t3,t10,t11,q3,g10,g11,hxl,l0,l1,iz23,Nat.zero_mul,Nat.one_mul,nf2,nf3,nf4]
    rw[eh,er]
    have hz:=((hxH8.bump 10).pt (i:=p10) (by omega) (show Heap.get ⟨H8.next+10,H8.t⟩ p10=_ from g10) (some (.row (six x ax cx) 25))).pt (i:=p11) (by omega) (by rw[get_put,if_neg (Ne.symm hne)];exact g11) (some (.row (six y ay cy) 25))
    exact⟨_,_,ax,cx,ay,cy,rfl,(by simp only[sG,reduceCtorEq,t0]),(by simp only[sG,Nat.reduceEqDiff,t3]),(by simp only[sG,Nat.reduceEqDiff,t5]),(by simp only[sG,Nat.reduceEqDiff,t7]),(by simp only[sG,Nat.reduceEqDiff,t10]),(by simp only[sG,Nat.reduceEqDiff,t11]),by rw[get_put,if_neg hne,get_put,if_pos rfl],by rw[get_put,if_pos rfl],by rw[get_put,if_neg (by omega),get_put,if_neg (by omega)];exact g5,by rw[get_put,if_neg (by omega),get_put,if_neg (by omega)];exact g7,hr0,hr1,hcx,hcy,hz⟩
   ·have eh:headOf t1=t1:=by unfold headOf;rw[if_neg hn]
    have er:restOf t1=atmT sTrue:=by unfold restOf;rw[if_neg hn]
    rw[eh,er]
    refine EvC.condF (by simp (config := { maxSteps := 2000000 }) (disch:=first|omega|rfl) only[sB,Nat.reduceEqDiff,decide_eq_false hn]) ?_;(try refine EvC.skip ?_);(try simp only[z00,z01])
    exact⟨_,_,a1,c1,none,0,rfl,(by simp only[sG,reduceCtorEq,t0]),(by simp only[sG,Nat.reduceEqDiff,t3]),(by simp only[sG,Nat.reduceEqDiff,t5]),(by simp only[sG,Nat.reduceEqDiff,t7]),(by simp only[sG,Nat.reduceEqDiff,t10]),(by simp only[sG,Nat.reduceEqDiff,t11]),g10,g11,g5,g7,r1,(z1t (S:=fun _=>False) (by decide)).rep,hc1,z74,hxH8⟩
  ·rintro st ⟨tm,G,ah,ch,ar,cr,rfl,t0,t3,t5,t7,t10,t11,g10,g11,g5,g7,rh,rr,hch,hcr,hxG⟩
   simp only[z00]
   have hR1:readS m t=readH m1 (headOf t1) (restOf t1):=by
    unfold readS
    rw[if_neg (fun h=>h hc),hS]
   rw[hR1]
   generalize headOf t1=h at *
   generalize restOf t1=r at *
   have wG:=hxG.wf
   have q10:=row6 g10
   (repeat refine EvC.seq ?_);refine EvC.reg ?_;simp (config := { maxSteps := 2000000 }) (disch:=first|omega|rfl) only[sB,Nat.reduceEqDiff,ld25,cl30,t0,t10,q10]
   refine(zgw (m:=m1) rh hxG hw hch wG).mono ?_
   rintro v H9 ⟨hx9,a2,c2,ev2,rfl,r2,he2,hc2⟩
   have lp:=wG _ _ g10
   have lq:=wG _ _ g11
   have l7:=wG _ _ g7
   have n9:=hx9.next
   have g10:=hx9.get wG g10
   have g11:=hx9.get wG g11
   have g5:=hx9.get wG g5
   have g7:=hx9.get wG g7
   have hx9':=hxG.trans hx9
   obtain⟨⟨m2,t2,e2⟩,hS2⟩:∃R,stripS m1 h=R:=⟨_,rfl⟩
   rw[hS2] at r2 he2 hc2 ⊢
   simp only at r2 he2 hc2
   have b10:H.next+3≤p10:=by omega
   have b11:H.next+3≤p11:=by omega
   try simp (config := { maxSteps := 2000000 }) (disch:=first|omega|rfl) only[sB,Nat.reduceEqDiff,Nat.reduceAdd,one,reduceCtorEq,st25,t10,g10]
   obtain⟨H10,e10⟩:∃H10,H9.put p10 (some (.row (six t2 a2 c2) 25))=H10:=⟨_,rfl⟩
   simp only[e10]
   have hx10:HX H H10:=by rw[←e10];exact hx9'.pt (i:=p10) (by omega) g10 _
   have n10:H10.next=H9.next:=by rw[←e10];rfl
   have k10:∀n,n≠p10→H10.get n=H9.get n:=fun n hn=>by rw[←e10,get_put,if_neg hn]
   have g10:H10.get p10=some (.row (six t2 a2 c2) 25):=by rw[←e10,get_put,if_pos rfl]
   have g5:=(k10 _ (by omega)).trans g5
   have g7:=(k10 _ (by omega)).trans g7
   have g11:=(k10 _ (Ne.symm hne)).trans g11
   clear e10
   have w10:=hx10.wf
   have he2:RepES H10 (Rg G.next H9.next) e2 ev2:=he2.to fun n hn hl=>⟨k10 n (by have:=hn.1;omega),hn,by omega⟩
   have q10:=row6 g10
   have q11:=row6 g11
   have q7:=z1y g7
   have dG:H.next+2≤G.next:=by omega
   clear g3 q3
   by_cases ho2:e2=.ok
   rotate_left
   ·have hR:readH m1 h r=(ByteArray.empty,zeroC,e2):=by
     unfold readH
     rw[hS2]
     cases e2 with
     |ok=>exact absurd rfl ho2
     |num n=>rfl
     |ball u=>rfl
    obtain⟨T0,x0,rfl⟩:=he2.rep.some ho2
    repeat' (first|refine EvC.seq ?_|(refine EvC.ret ?_;try simp only[z05,z03])|(refine EvC.reg ?_;simp (config := { maxSteps := 2000000 }) (disch:=first|omega|rfl) only[sB,Nat.reduceEqDiff,reduceCtorEq,zla])|(refine EvC.drw (id:=13) [([(0,0),(2,0)],some 3),([(1,0),(4,1)],none)] ?_ ?_;kernel_rfl;simp (config := { maxSteps := 2000000 }) (disch:=first|omega|rfl) only[sD,sB,Nat.reduceEqDiff,Nat.reduceAdd,one,reduceCtorEq,ld32,st32,t5,t7,q7,g5,isAlloc,isRead,Bool.and_true])|(refine EvC.condT ?_ ?_;simp (config := { maxSteps := 2000000 }) (disch:=first|omega|rfl) only[sB,Nat.reduceEqDiff,reduceCtorEq];refine z07 ?_))
    exact z2y hR (hx10.bump _) g5 (by simp only[sB,Nat.reduceEqDiff,reduceCtorEq];rfl) (by simp only[sG,Nat.reduceEqDiff,reduceCtorEq,t5]) (by simp only[sG,Nat.reduceEqDiff,reduceCtorEq]) (RepES.to he2 fun n hn hl=>⟨rfl,hn,by show n < H10.next+_;omega⟩) dG (by show _≤H10.next+_;omega)
   subst ho2
   obtain rfl:ev2=.nilIface:=he2.rep
   have hR2:readH m1 h r=readB m2 t2 r:=by unfold readH;rw[hS2]
   rw[hR2]
   (repeat refine EvC.seq ?_);refine EvC.reg ?_;simp (config := { maxSteps := 2000000 }) (disch:=first|omega|rfl) only[sB,Nat.reduceEqDiff,reduceCtorEq,zlb]
   refine EvC.condF (by simp (config := { maxSteps := 2000000 }) (disch:=first|omega|rfl) only[sB,Nat.reduceEqDiff,reduceCtorEq]) ?_;(try refine EvC.skip ?_);(try simp only[z00,z01])
   (repeat refine EvC.seq ?_);refine EvC.reg ?_;simp (config := { maxSteps := 2000000 }) (disch:=first|omega|rfl) only[sB,Nat.reduceEqDiff,reduceCtorEq,z0f,ld3,t10,q10]
   (repeat refine EvC.seq ?_)
   refine EvC.join (fun st=>∃tm',st=⟨tm',[],H10⟩∧tm'.get 0=some (.string m2)∧tm'.get 5=some (.pointer (some ⟨H.next+1,0,none⟩))∧tm'.get 7=some (.pointer (some ⟨H2.next,0,none⟩)) ∧
    tm'.get 10=some (.pointer (some ⟨p10,0,none⟩))∧tm'.get 11=some (.pointer (some ⟨p11,0,none⟩))∧t2.kind≠1∧¬isNum t2) ?_ ?_
   ·refine EvC.block ?_
    by_cases k1:t2.kind=1
    ·have hR:readB m2 t2 r=(ByteArray.empty,zeroC,.ball (atmT sInst)):=by unfold readB;rw[if_pos k1]
     (repeat refine EvC.seq ?_);refine EvC.reg ?_;simp (config := { maxSteps := 2000000 }) (disch:=first|omega|rfl) only[sB,Nat.reduceEqDiff,reduceCtorEq,z0i k1]
     refine EvC.condT (by simp (config := { maxSteps := 2000000 }) (disch:=first|omega|rfl) only[sB,Nat.reduceEqDiff,reduceCtorEq]) ?_;(try refine EvC.skip ?_);(try simp only[z00,z01])
     (repeat refine EvC.seq ?_);refine EvC.drw [([],some 1),([],some 2),([(0,0),(3,2)],some 4),([(5,3)],none)] (by kernel_rfl) ?_;simp (config := { maxSteps := 2000000 }) (disch:=first|omega|rfl) only[sD,sA,Nat.reduceAdd,cl31]
     have hb:=(HX.refl w10).bump 6
     refine(z4a hb.wf).mono ?_
     rintro v H11 ⟨rfl,hx11⟩
     have w11:=hx11.wf
     have q711:=z1y ((hb.trans hx11).get w10 g7)
     repeat' (first|(refine z0n ?_;simp (config := { maxSteps := 2000000 }) (disch:=first|omega|rfl) only[sD,sB,Nat.reduceEqDiff,reduceCtorEq,cl33]))
     refine(z7w (S:=fun _=>False) (z1t (by decide)) w11 (fun _ h=>h.elim)).mono ?_
     rintro v H12 ⟨hx12,he12⟩
     have hx02:=(hb.trans hx11).trans hx12
     have q712:=z1y (hx02.get w10 g7)
     have g5:=hx02.get w10 g5
     repeat' (first|(refine EvC.ret ?_;try simp only[z05,z03])|(refine z0n ?_;simp (config := { maxSteps := 2000000 }) (disch:=first|omega|rfl) only[sV,sD,sB,Nat.reduceEqDiff,Nat.reduceAdd,one,reduceCtorEq,ld32,st32,t5,t7,q7,q711,q712,g5,isAlloc,isRead]))
     have n11:H10.next+6≤H11.next:=hx11.next
     exact z2y (lo:=H11.next) (hi:=H12.next) hR (hx10.trans hx02) g5 (by simp only[sB,Nat.reduceEqDiff,reduceCtorEq];rfl) (by simp only[sG,Nat.reduceEqDiff,reduceCtorEq,t5]) (by simp only[sG,Nat.reduceEqDiff,reduceCtorEq]) (he12.to fun n hn hl=>⟨rfl,hn.resolve_left (fun h=>h),hl⟩) (by omega) (Nat.le_refl _)
    by_cases k3:isNum t2
    ·have hR:readB m2 t2 r=(ByteArray.empty,zeroC,.ball (typeT sCallable t2)):=by unfold readB;rw[if_neg k1,if_pos k3]
     (repeat refine EvC.seq ?_);refine EvC.reg ?_;simp (config := { maxSteps := 2000000 }) (disch:=first|omega|rfl) only[sB,Nat.reduceEqDiff,reduceCtorEq,z0j k1]
     refine EvC.condF (by simp (config := { maxSteps := 2000000 }) (disch:=first|omega|rfl) only[sB,Nat.reduceEqDiff,reduceCtorEq]) ?_;(try refine EvC.skip ?_);(try simp only[z00,z01])
     by_cases k33:t2.kind=3
     ·(repeat refine EvC.seq ?_);refine EvC.reg ?_;simp (config := { maxSteps := 2000000 }) (disch:=first|omega|rfl) only[sB,Nat.reduceEqDiff,reduceCtorEq,z0i k33]
      refine EvC.condT (by simp (config := { maxSteps := 2000000 }) (disch:=first|omega|rfl) only[sB,Nat.reduceEqDiff,reduceCtorEq]) ?_;(try refine EvC.skip ?_);(try simp only[z00,z01])
      refine EvC.condT (by simp (config := { maxSteps := 2000000 }) (disch:=first|omega|rfl) only[sB,Nat.reduceEqDiff,reduceCtorEq]) ?_;(try refine EvC.skip ?_);(try simp only[z00,z01])
      (repeat refine EvC.seq ?_);refine EvC.drw [([(1,0)],some 2),([(0,0),(3,1)],some 4),([(5,2)],none)] (by kernel_rfl) ?_;simp (config := { maxSteps := 2000000 }) (disch:=first|omega|rfl) only[sD,sB,Nat.reduceEqDiff,Nat.reduceAdd,reduceCtorEq,ld25,cl34,isAlloc,isRead,t10,q10]
      have hb:=(HX.refl w10).bump 6
      refine(z6n (s:=sCallable) (by decide) ((r2.mono hx10 hw).mono hb w10) hc2 hb.wf).mono ?_
      rintro v H12 ⟨hx12,he12⟩
      have hx02:=hb.trans hx12
      have q712:=z1y (hx02.get w10 g7)
      have g5:=hx02.get w10 g5
      repeat' (first|(refine EvC.ret ?_;try simp only[z05,z03])|(refine z0n ?_;simp (config := { maxSteps := 2000000 }) (disch:=first|omega|rfl) only[sV,sD,sB,Nat.reduceEqDiff,Nat.reduceAdd,one,reduceCtorEq,ld32,st32,t5,t7,q7,q712,g5,isAlloc,isRead]))
      have n11:H10.next+6≤H12.next:=hx12.next
      exact z2y (lo:=H10.next+6) (hi:=H12.next) hR (hx10.trans hx02) g5 (by simp only[sB,Nat.reduceEqDiff,reduceCtorEq];rfl) (by simp only[sG,Nat.reduceEqDiff,reduceCtorEq,t5]) (by simp only[sG,Nat.reduceEqDiff,reduceCtorEq]) (he12.to fun n hn hl=>⟨rfl,hn,hl⟩) (by omega) (Nat.le_refl _)
     ·have k44:t2.kind=4:=k3.resolve_left k33
      (repeat refine EvC.seq ?_);refine EvC.reg ?_;simp (config := { maxSteps := 2000000 }) (disch:=first|omega|rfl) only[sB,Nat.reduceEqDiff,reduceCtorEq,z0j k33]
      refine EvC.condF (by simp (config := { maxSteps := 2000000 }) (disch:=first|omega|rfl) only[sB,Nat.reduceEqDiff,reduceCtorEq]) ?_;(try refine EvC.skip ?_);(try simp only[z00,z01])
      refine EvC.reg ?_;simp (config := { maxSteps := 2000000 }) (disch:=first|omega|rfl) only[sB,Nat.reduceEqDiff,reduceCtorEq,z0i k44]
      refine EvC.condT (by simp (config := { maxSteps := 2000000 }) (disch:=first|omega|rfl) only[sB,Nat.reduceEqDiff,reduceCtorEq]) ?_;(try refine EvC.skip ?_);(try simp only[z00,z01])
      (repeat refine EvC.seq ?_);refine EvC.drw [([(1,0)],some 2),([(0,0),(3,1)],some 4),([(5,2)],none)] (by kernel_rfl) ?_;simp (config := { maxSteps := 2000000 }) (disch:=first|omega|rfl) only[sD,sB,Nat.reduceEqDiff,Nat.reduceAdd,reduceCtorEq,ld25,cl34,isAlloc,isRead,t10,q10]
      have hb:=(HX.refl w10).bump 6
      refine(z6n (s:=sCallable) (by decide) ((r2.mono hx10 hw).mono hb w10) hc2 hb.wf).mono ?_
      rintro v H12 ⟨hx12,he12⟩
      have hx02:=hb.trans hx12
      have q712:=z1y (hx02.get w10 g7)
      have g5:=hx02.get w10 g5
      repeat' (first|(refine EvC.ret ?_;try simp only[z05,z03])|(refine z0n ?_;simp (config := { maxSteps := 2000000 }) (disch:=first|omega|rfl) only[sV,sD,sB,Nat.reduceEqDiff,Nat.reduceAdd,one,reduceCtorEq,ld32,st32,t5,t7,q7,q712,g5,isAlloc,isRead]))
      have n11:H10.next+6≤H12.next:=hx12.next
      exact z2y (lo:=H10.next+6) (hi:=H12.next) hR (hx10.trans hx02) g5 (by simp only[sB,Nat.reduceEqDiff,reduceCtorEq];rfl) (by simp only[sG,Nat.reduceEqDiff,reduceCtorEq,t5]) (by simp only[sG,Nat.reduceEqDiff,reduceCtorEq]) (he12.to fun n hn hl=>⟨rfl,hn,hl⟩) (by omega) (Nat.le_refl _)
    ·have k33:t2.kind≠3:=fun e=>k3 (.inl e)
     have k44:t2.kind≠4:=fun e=>k3 (.inr e)
     repeat' (first|refine EvC.seq ?_|(refine EvC.skip ?_;try simp only[sA])|(refine EvC.reg ?_;simp (config := { maxSteps := 2000000 }) (disch:=first|omega|rfl) only[sB,Nat.reduceEqDiff,reduceCtorEq,z0j k1,z0j k33,z0j k44])|(refine EvC.condF ?_ ?_;simp (config := { maxSteps := 2000000 }) (disch:=first|omega|rfl) only[sB,Nat.reduceEqDiff,reduceCtorEq];refine z07 ?_))
     exact⟨_,rfl,(by simp only[sG,reduceCtorEq]),(by simp only[sG,Nat.reduceEqDiff,reduceCtorEq,t5]),(by simp only[sG,Nat.reduceEqDiff,reduceCtorEq,t7]),(by simp only[sG,Nat.reduceEqDiff,reduceCtorEq,t10]),(by simp only[sG,Nat.reduceEqDiff,reduceCtorEq,t11]),k1,k3⟩
   ·rintro st ⟨tm',rfl,t0,t5,t7,t10,t11,k1,k3⟩
    simp only[z00]
    have hR3:readB m2 t2 r=match bodyF (SizeOf.sizeOf r+1) r with
      |none=>(ByteArray.empty,zeroC,.ball (typeT sCallable r))
      |some b=>if 400 < cnt t2 0+cnt (toldB b) 0 then (ByteArray.empty,zeroC,.ball (resT sClause)) else (m2,madeC t2 r,.ok):=by
     unfold readB
     rw[if_neg k1,if_neg k3]
    (repeat refine EvC.seq ?_);refine EvC.reg ?_;simp (config := { maxSteps := 2000000 }) (disch:=first|omega|rfl) only[sB,Nat.reduceEqDiff,ld25,cl26,t11,q11]
    refine(zdk (rr.mono hx10 hw) w10).mono ?_
    rintro v H11 ⟨hx11,out,ev,rfl,hob,hev⟩
    obtain⟨ta,tc,sa,sc,rfl⟩:=hob.rep.eight
    have w11:=hx11.wf
    have n11:=hx11.next
    try simp (config := { maxSteps := 2000000 }) (disch:=first|omega|rfl) only[sB,dAlloc,Nat.reduceEqDiff,Nat.reduceAdd,one,zr30,st30]
    obtain⟨H12,e12,hx12,g12,hn12,w12⟩:=z0r w11 (.row zero8 30) (.row (eightT (readyS r).1.kind (readyS r).1.term ta tc sa (readyS r).1.sub.length sc) 30)
    simp only[e12]
    clear e12
    have hx012:=hx11.trans hx12
    have hxH12:=hx10.trans hx012
    have g10:=hx012.get w10 g10
    have g11:=hx012.get w10 g11
    have g5:=hx012.get w10 g5
    have g7:=hx012.get w10 g7
    have q10:=row6 g10
    have q11:=row6 g11
    have q12:=row8 g12
    have q7:=z1y g7
    have d12:H.next+2≤H12.next:=by have:=hx012.next;omega
    have hev:RepES H12 (Rg H10.next H11.next) (readyS r).2 ev:=hev.to fun n hn hl=>⟨hx12.keep n hl,hn,by omega⟩
    cases hb:bodyF (SizeOf.sizeOf r+1) r with
    |none =>
     have hrs:readyS r=(zeroB,.ball (typeT sCallable r)):=by unfold readyS;rw[if_neg (fun h=>h hcr),hb]
     rw[hb] at hR3
     rw[hrs] at hev
     obtain⟨pb,ab,cb,rfl,gb,rb⟩:=hev.rep
     have qb:=row6 gb
     have hne1:((typeT sCallable r).name.toList == sResE.toList)=false:=zkd (show sTypeE≠sResE by decide)
     (repeat refine EvC.seq ?_);refine EvC.reg ?_;simp (config := { maxSteps := 2000000 }) (disch:=first|omega|rfl) only[sB,Nat.reduceEqDiff,z17,z94 zh0]
     (repeat refine EvC.seq ?_);refine EvC.drw [([(0,0),(1,0),(2,0),(3,0),(4,0),(5,0),(6,0),(7,0),(8,0),(9,0),(10,0),(11,0),(12,0),(13,0)],some 14),([(15,0)],some 16),([],some 17),([(18,3),(19,3),(20,3),(21,3)],none)] (by kernel_rfl) ?_;simp (config := { maxSteps := 2000000 }) (disch:=first|omega|rfl) only[sD,sB,Nat.reduceEqDiff,Nat.reduceAdd,reduceCtorEq,zji,z18,ld9,isAlloc,isRead,qb,zbf,z96,z19,hne1,zrr]
     refine EvC.condF (by simp (config := { maxSteps := 2000000 }) (disch:=first|omega|rfl) only[sB,Nat.reduceEqDiff]) ?_;(try refine EvC.skip ?_);(try simp only[z00,z01])
     repeat' (first|refine EvC.seq ?_|(refine EvC.ret ?_;try simp only[z05,z03])|(refine EvC.reg ?_;simp (config := { maxSteps := 2000000 }) (disch:=first|omega|rfl) only[sB,Nat.reduceEqDiff,zla])|(refine EvC.drw (id:=25) [([(0,0),(2,0)],some 3),([(1,0),(4,1)],none)] ?_ ?_;kernel_rfl;simp (config := { maxSteps := 2000000 }) (disch:=first|omega|rfl) only[sD,sB,Nat.reduceEqDiff,Nat.reduceAdd,one,reduceCtorEq,ld32,st32,t5,t7,q7,g5,isAlloc,isRead,Bool.and_true])|(refine EvC.condT ?_ ?_;simp (config := { maxSteps := 2000000 }) (disch:=first|omega|rfl) only[sB,Nat.reduceEqDiff];refine z07 ?_))
     refine z2y (lo:=H10.next) (hi:=H11.next) hR3 ((hxH12.bump 22).bump 5) g5 (by simp only[sB,Nat.reduceEqDiff];rfl) (by simp only[sG,Nat.reduceEqDiff,t5]) (by simp only[sG,Nat.reduceEqDiff]) (hev.to fun n hn hl=>⟨rfl,hn,by show n < H12.next+22+5;omega⟩) (by omega) (by show _≤H12.next+22+5;omega)
    |some b =>
     rw[hb] at hR3
     simp only at hR3
     by_cases h4:4000 < cnt (toldB b) 0
     ·have hrs:readyS r=(zeroB,.ball (resT sNodes)):=by unfold readyS;rw[if_neg (fun h=>h hcr),hb];simp only;rw[if_pos h4]
      have hR4:readB m2 t2 r=(ByteArray.empty,zeroC,.ball (resT sClause)):=by rw[hR3,if_pos (by omega)]
      rw[hrs] at hev
      obtain⟨pb,ab,cb,rfl,gb,rb⟩:=hev.rep
      have qb:=row6 gb
      have hne1:((resT sNodes).name.toList == sResE.toList)=true:=z3o rfl
      (repeat refine EvC.seq ?_);refine EvC.reg ?_;simp (config := { maxSteps := 2000000 }) (disch:=first|omega|rfl) only[sB,Nat.reduceEqDiff,z17,z94 zh0]
      (repeat refine EvC.seq ?_);refine EvC.drw [([(0,0),(1,0),(2,0),(3,0),(4,0),(5,0),(6,0),(7,0),(8,0),(9,0),(10,0),(11,0),(12,0),(13,0)],some 14),([(15,0)],some 16),([],some 17),([(18,3),(19,3),(20,3),(21,3)],none)] (by kernel_rfl) ?_;simp (config := { maxSteps := 2000000 }) (disch:=first|omega|rfl) only[sD,sB,Nat.reduceEqDiff,Nat.reduceAdd,reduceCtorEq,zji,z18,ld9,isAlloc,isRead,qb,zbf,z96,z19,hne1]
      refine EvC.condT (by simp (config := { maxSteps := 2000000 }) (disch:=first|omega|rfl) only[sB,Nat.reduceEqDiff]) ?_;(try refine EvC.skip ?_);(try simp only[z00,z01])
      (repeat refine EvC.seq ?_);refine EvC.drw [([],some 1),([(0,0),(2,1)],some 3),([(4,2)],none)] (by kernel_rfl) ?_;simp (config := { maxSteps := 2000000 }) (disch:=first|omega|rfl) only[sD,sA,Nat.reduceAdd,cl37]
      have hb2:HX H12 ⟨H12.next+22+5,H12.t⟩:=((HX.refl w12).bump 22).bump 5
      refine(zba (s:=sClause) (by decide) hb2.wf).mono ?_
      rintro v H13 ⟨hx13,he13⟩
      have hx23:=hb2.trans hx13
      have q713:=z1y (hx23.get w12 g7)
      have g5:=hx23.get w12 g5
      repeat' (first|(refine EvC.ret ?_;try simp only[z05,z03])|(refine z0n ?_;simp (config := { maxSteps := 2000000 }) (disch:=first|omega|rfl) only[sV,sD,sB,Nat.reduceEqDiff,Nat.reduceAdd,one,reduceCtorEq,ld32,st32,t5,t7,q7,q713,g5,isAlloc,isRead]))
      have n13:H12.next+22+5≤H13.next:=hx13.next
      exact z2y (lo:=H12.next+22+5) (hi:=H13.next) hR4 (hxH12.trans hx23) g5 (by simp only[sB,Nat.reduceEqDiff];rfl) (by simp only[sG,Nat.reduceEqDiff,t5]) (by simp only[sG,Nat.reduceEqDiff]) (he13.to fun n hn hl=>⟨rfl,hn,hl⟩) (by omega) (Nat.le_refl _)
     ·have hrs:readyS r=(b,.ok):=by unfold readyS;rw[if_neg (fun h=>h hcr),hb];simp only;rw[if_neg h4]
      rw[hrs] at hev
      obtain rfl:ev=.nilIface:=hev.rep
      (repeat refine EvC.seq ?_);refine EvC.reg ?_;simp (config := { maxSteps := 2000000 }) (disch:=first|omega|rfl) only[sB,Nat.reduceEqDiff,z17,zkv zh0]
      (repeat refine EvC.seq ?_);refine EvC.drw [([(0,0),(1,0),(2,0),(3,0),(4,0),(5,0),(6,0),(7,0),(8,0),(9,0),(10,0),(11,0),(12,0),(13,0)],some 14),([(15,0)],some 16),([],some 17),([(18,3),(19,3),(20,3),(21,3)],none)] (by kernel_rfl) ?_;simp (config := { maxSteps := 2000000 }) (disch:=first|omega|rfl) only[sD,sB,Nat.reduceEqDiff,Nat.reduceAdd,reduceCtorEq,ld25,cl35,isAlloc,isRead,t10,q10,zrs]
      have hb2:HX H12 ⟨H12.next+22,H12.t⟩:=(HX.refl w12).bump 22
      refine(z2j _ _ _ (r2.mono (hxH12.bump 22) hw) hb2.wf).mono ?_
      rintro v H13 ⟨rfl,hx13⟩
      have hx213:=hb2.trans hx13
      have q1213:=row8 (hx213.get w12 g12)
      repeat' (first|(refine z0n ?_;simp (config := { maxSteps := 2000000 }) (disch:=first|omega|rfl) only[sV,sD,sB,Nat.reduceEqDiff,reduceCtorEq,ld30,cl36,q12,q1213,isAlloc,isRead]))
      have hfew:=(z6q (z0h.1 hcr).2 hb).up (m:=1000000) (by decide)
      have hrb:(readyS r).1=b:=by rw[hrs]
      have w13:=hx13.wf
      have hk3:=hx12.trans hx213
      have hob13:OB H13 30 25 (Rg H10.next H11.next) (readyS r).1 _:=hob.keep hk3
      refine(zgu (Nat.lt_succ_self _) hob13.bi (by rw[hrb];exact hfew) (fun n hn=>by have:=hn.2;have:=hk3.next;omega) w13).mono ?_
      rintro v H14 ⟨hx14,outT,rfl,hrT⟩
      rw[hrb] at hrT
      repeat' (first|(refine z0n ?_;simp (config := { maxSteps := 2000000 }) (disch:=first|omega|rfl) only[sD,sB,Nat.reduceEqDiff,cl35]))
      refine(z2j _ _ _ hrT.rep hx14.wf).mono ?_
      rintro v H15 ⟨rfl,hx15⟩
      repeat' (first|(refine z0n ?_;simp (config := { maxSteps := 2000000 }) (disch:=first|omega|rfl) only[sD,sB,Nat.reduceEqDiff,Nat.reduceAdd,reduceCtorEq,isAlloc,isRead]))
      have hx25:=(hx213.trans hx14).trans hx15
      have g10:=hx25.get w12 g10
      have g11:=hx25.get w12 g11
      have g5:=hx25.get w12 g5
      have g7:=hx25.get w12 g7
      have q10:=row6 g10
      have q11:=row6 g11
      have q7:=z1y g7
      have w15:=hx25.wf
      have n25:=hx25.next
      have hxH15:=hxH12.trans hx25
      have cp1:=z72 t2
      have cp2:=z72 (toldB b)
      by_cases h400:400 < cnt t2 0+cnt (toldB b) 0
      ·have hR4:readB m2 t2 r=(ByteArray.empty,zeroC,.ball (resT sClause)):=by rw[hR3,if_pos h400]
       have hd:decide ((cnt t2 0:Int)+(cnt (toldB b) 0:Int) > 400)=true:=decide_eq_true (by omega)
       refine EvC.condT (by simp (config := { maxSteps := 2000000 }) (disch:=first|omega|rfl) only[sB,Nat.reduceEqDiff,z0c,hd]) ?_;(try refine EvC.skip ?_);(try simp only[z00,z01])
       (repeat refine EvC.seq ?_);refine EvC.drw [([],some 1),([(0,0),(2,1)],some 3),([(4,2)],none)] (by kernel_rfl) ?_;simp (config := { maxSteps := 2000000 }) (disch:=first|omega|rfl) only[sD,sA,Nat.reduceAdd,cl37]
       have hb2:HX H15 ⟨H15.next+5,H15.t⟩:=(HX.refl w15).bump 5
       refine(zba (s:=sClause) (by decide) hb2.wf).mono ?_
       rintro v H16 ⟨hx16,he16⟩
       have hx23:=hb2.trans hx16
       have q716:=z1y (hx23.get w15 g7)
       have g5:=hx23.get w15 g5
       repeat' (first|(refine EvC.ret ?_;try simp only[z05,z03])|(refine z0n ?_;simp (config := { maxSteps := 2000000 }) (disch:=first|omega|rfl) only[sV,sD,sB,Nat.reduceEqDiff,Nat.reduceAdd,one,reduceCtorEq,ld32,st32,t5,t7,q7,q716,g5,isAlloc,isRead]))
       have n16:H15.next+5≤H16.next:=hx16.next
       exact z2y (lo:=H15.next+5) (hi:=H16.next) hR4 (hxH15.trans hx23) g5 (by simp only[sB,Nat.reduceEqDiff];rfl) (by simp only[sG,Nat.reduceEqDiff,t5]) (by simp only[sG,Nat.reduceEqDiff]) (he16.to fun n hn hl=>⟨rfl,hn,hl⟩) (by omega) (Nat.le_refl _)
      have hR4:readB m2 t2 r=(m2,madeC t2 r,.ok):=by rw[hR3,if_neg h400]
      have hd:decide ((cnt t2 0:Int)+(cnt (toldB b) 0:Int) > 400)=false:=decide_eq_false (by omega)
      refine EvC.condF (by simp (config := { maxSteps := 2000000 }) (disch:=first|omega|rfl) only[sB,Nat.reduceEqDiff,z0c,hd]) ?_;(try refine EvC.skip ?_);(try simp only[z00,z01])
      (repeat refine EvC.seq ?_);refine EvC.reg ?_;simp (config := { maxSteps := 2000000 }) (disch:=first|omega|rfl) only[sB,Nat.reduceEqDiff,zlb]
      refine EvC.condF (by simp (config := { maxSteps := 2000000 }) (disch:=first|omega|rfl) only[sB,Nat.reduceEqDiff]) ?_;(try refine EvC.skip ?_);(try simp only[z00,z01])
      (repeat refine EvC.seq ?_);refine EvC.reg ?_;simp (config := { maxSteps := 2000000 }) (disch:=first|omega|rfl) only[sB,Nat.reduceEqDiff,Nat.reduceAdd,Value.cells,one,Nat.reduceLeDiff,layC,ld25,z8p,cl38,t10,t11,q10,q11]
      obtain⟨H16,e16,k16,g16,hn16,w16⟩:=new1 w15 (.row (six t2 a2 c2++six r ar cr) 25)
      have e16':=e16
      simp only[six,List.cons_append,List.nil_append] at e16'
      simp only[e16']
      clear e16 e16'
      have hxH16:=hxH15.trans k16
      have hch2:chkL [t2,r]=0:=by simp [chkL,hc2,hcr]
      have ho2:(occL [t2,r]).length≤8000:=by
       have:=zb6 hc2
       have:=zb6 hcr
       simp only[occL,List.length_append,List.length_nil];omega
      refine(zmy (RepL.two (r2.mono hxH16 hw) (rr.mono hxH16 hw) g16) (Nat.le_trans ho2 (by simp [most])) (by simp [most]) w16).mono ?_
      rintro v H17 ⟨ap,kp,rfl,hfl,hx17⟩
      rw[if_pos hch2] at hfl ⊢
      have hff:∀u∈[t2,r],Fine u:=fun u hu=>by
       rcases List.mem_cons.1 hu with rfl|hu
       ·exact(z0h.1 hc2).2
       ·rw[List.mem_singleton.1 hu];exact(z0h.1 hcr).2
      have hpo:(occL (plainL [t2,r])).length≤8000:=by rw[z59,zh1 hff,List.length_map];exact ho2
      have hpc:chkL (plainL [t2,r])=0:=by
       have hp:=fun n=>(z3r (uniq (occL [t2,r])) n).1
       rw[z59]
       simp [chkL,z97 hp hc2,z97 hp hcr]
      have hmc:madeC t2 r=⟨(plainL [t2,r]).getD 0 zeroT,(readyS ((plainL [t2,r]).getD 1 zeroT)).1,(uniq (occL (plainL [t2,r]))).length⟩:=rfl
      obtain⟨u0,u1,hpl⟩:∃u0 u1,plainL [t2,r]=[u0,u1]:=⟨_,_,rfl⟩
      have hu1:checkS u1=0:=z6f hpc u1 (by rw[hpl];simp)
      rw[hpl] at hfl hpo hpc hmc ⊢
      obtain⟨cellsp,rlp⟩:=hfl.rep
      have w17:=hx17.wf
      have n17:=hx17.next
      try simp (config := { maxSteps := 2000000 }) (disch:=first|omega|rfl) only[sB,Nat.reduceEqDiff,Nat.reduceAdd]
      (repeat refine EvC.seq ?_);refine EvC.reg ?_;simp (config := { maxSteps := 2000000 }) (disch:=first|omega|rfl) only[sB,Nat.reduceEqDiff,cl39]
      refine(zb3 rlp (Nat.le_trans hpo (by simp [most])) w17).mono ?_
      rintro v H18 ⟨u,rfl,hil,hx18⟩
      rw[if_pos hpc] at hil
      obtain⟨au,ku,rfl,-,-⟩:=hil.slice
      obtain⟨bp,op,ax0,cx0,hap,ld0,rs0⟩:=hfl.elS (i:=0) w17 (by simp)
      obtain⟨bp',op',ax1,cx1,hap',ld1,rs1⟩:=hfl.elS (i:=1) w17 (by simp)
      subst hap
      cases hap'
      simp only[Nat.zero_mul,Nat.add_zero,Nat.one_mul,List.getElem_cons_zero,List.getElem_cons_succ] at ld0 ld1 rs0 rs1
      have ld1':=hx18.load w17 ld1
      have w18:=hx18.wf
      have n18:=hx18.next
      try simp (config := { maxSteps := 2000000 }) (disch:=first|omega|rfl) only[sB,Nat.reduceEqDiff]
      (repeat refine EvC.seq ?_);refine EvC.reg ?_;simp (config := { maxSteps := 2000000 }) (disch:=first|omega|rfl) only[sB,Nat.reduceEqDiff,Int.reduceToNat,ld25,cl26,ld1',iz23,Nat.one_mul]
      refine(zdk (rs1.rep.mono hx18 w17) w18).mono ?_
      rintro v H19 ⟨hx19,outB,evB,rfl,hoB,-⟩
      obtain⟨bta,btc,bsa,bsc,rfl⟩:=hoB.rep.eight
      have w19:=hx19.wf
      have n19:=hx19.next
      try simp (config := { maxSteps := 2000000 }) (disch:=first|omega|rfl) only[sB,dAlloc,Nat.reduceEqDiff,Nat.reduceAdd,one,zr30,st30]
      obtain⟨H20,e20,hx20,g20,hn20,w20⟩:=z0r w19 (.row zero8 30) (.row (eightT (readyS u1).1.kind (readyS u1).1.term bta btc bsa (readyS u1).1.sub.length bsc) 30)
      simp only[e20]
      clear e20
      have k20:=(hx18.trans hx19).trans hx20
      have hx16':=hx17.trans k20
      have ld0':=k20.load w17 ld0
      have q20:=row8 g20
      have g5:=hx16'.get w16 (k16.get w15 g5)
      have hxH20:=hxH16.trans hx16'
      have nU:(uniq (occL [u0,u1])).length≤8000:=Nat.le_trans (z54 _) hpo
      (repeat refine EvC.seq ?_);refine EvC.drw [([(0,0),(1,0),(2,0),(3,0),(4,0),(5,0),(6,0),(7,0),(8,0)],some 9),([(10,1)],none)] (by kernel_rfl) ?_;simp (config := { maxSteps := 2000000 }) (disch:=first|omega|rfl) only[sD,sB,Nat.reduceEqDiff,Nat.reduceAdd,Value.cells,one,reduceCtorEq,Nat.reduceLeDiff,layC,Int.reduceToNat,ld25,st32,ld30,ln77,bd32,isAlloc,isRead,t0,t5,ld0',q20,g5,iz23,Nat.zero_mul]
      repeat' (first|(refine EvC.ret ?_))
      have hxb:=hxH20.bump 11
      have hz:=hxb.pt (i:=H.next+1) (by omega) (show Heap.get ⟨H20.next+11,H20.t⟩ (H.next+1)=_ from g5) (some (.row (fift u0 ax0 cx0 (readyS u1).1.kind (readyS u1).1.term bta btc bsa (readyS u1).1.sub.length bsc (uniq (occL [u0,u1])).length) 32))
      rw[hR4,hmc]
      refine z4m rfl (by simp only[sG,Nat.reduceEqDiff]) (by simp only[sB,Nat.reduceEqDiff,t5];rfl) (by simp only[sB,Nat.reduceAdd,cutC,ld32];rfl) (by simp only[sG,Nat.reduceEqDiff]) ⟨hz,_,_,rfl,⟨_,_,_,_,_,_,rfl,?_,?_⟩,RepES.fine⟩
      ·refine rs0.to fun n hn hl=>?_
       have a1:=hn.1
       have a2:=k20.next
       exact⟨by rw[get_put,if_neg (by omega)];exact k20.keep n hl,⟨by omega,by rw[z06];show n < H20.next+11;omega⟩,by rw[z06];show n < H20.next+11;omega⟩
      ·refine hoB.to (fun n hn hl=>?_) fun n hn=>?_
       ·have a1:=hn.1
        have a2:=hx20.next
        exact⟨by rw[get_put,if_neg (by omega)];exact hx20.keep n hl,by rw[z06];show n < H20.next+11;omega⟩
       ·have a1:=hn.1
        have a3:=hn.2
        have a2:=hx20.next
        exact⟨by omega,by rw[z06];show n < H20.next+11;omega⟩
abbrev isF2 (t:Tm) (s:ByteArray) (x y:Tm):Prop:=t.kind=5∧t.name=s∧t.args=[x,y]
theorem isF2.f {t x y:Tm}{s:ByteArray}(h:isF2 t s x y):isF t s:=⟨h.1,h.2.1,by rw[h.2.2];rfl⟩
theorem isF2.a0 {t x y:Tm}{s:ByteArray}(h:isF2 t s x y):t.at 0=x:=by unfold Tm.at;rw[h.2.2];rfl
theorem isF2.a1 {t x y:Tm}{s:ByteArray}(h:isF2 t s x y):t.at 1=y:=by unfold Tm.at;rw[h.2.2];rfl
theorem isF.two {t:Tm}{s:ByteArray}(h:isF t s):∃x y,isF2 t s x y:=by
 obtain⟨h1,h2,h3⟩:=h
 match hl:t.args,h3 with
 |[x,y],_=>exact⟨x,y,h1,h2,hl⟩
theorem isF.ne {t:Tm}{s u:ByteArray}(h:isF t s) (hs:s≠u):¬isF t u:=fun k=>hs (h.2.1.symm.trans k.2.1)
structure Oth (t:Tm):Prop where
 num:¬isNum t
 var:t.kind≠1
 tru:¬(t.kind=2∧t.name=sTrue)
 cut:¬(t.kind=2∧t.name=sExc)
 col:¬isF t sCol
 cma:¬isF t sCma
 arr:¬isF t sArr
 sem:¬isF t sSem
inductive BdR:Tm→Bdy→Prop
 |var {t}:t.kind=1→BdR t (callB t)
 |tru {t}:t.kind=2→t.name=sTrue→BdR t (.mk 1 zeroT [])
 |cut {t}:t.kind=2→t.name=sExc→BdR t (.mk 2 zeroT [])
 |mcall {t x y}:isF2 t sCol x y→(x.kind=1∨x.kind=2)→¬isNum y→(x.kind=1∨y.kind=1)→BdR t (callB t)
 |mod {t x y b}:isF2 t sCol x y→x.kind=2→y.kind≠1→¬isNum y→BdR y b→BdR t (.mk 7 x [b])
 |and {t x y b d}:isF2 t sCma x y→BdR x b→BdR y d→BdR t (.mk 4 zeroT [b,d])
 |arr {t x y b d}:isF2 t sArr x y→BdR x b→BdR y d→BdR t (.mk 6 zeroT [b,d])
 |ite {t x y u w b d e}:isF2 t sSem x y→isF2 x sArr u w→BdR u b→BdR w d→BdR y e→BdR t (.mk 6 zeroT [b,d,e])
 |or {t x y b d}:isF2 t sSem x y→¬isF x sArr→BdR x b→BdR y d→BdR t (.mk 5 zeroT [b,d])
 |call {t}:Oth t→BdR t (.mk 3 t [])
theorem zq4 {f:Tm→Option Bdy}{k:Int}{x y:Tm}{b:Bdy}(h:subBF f k [x,y]=some b):∃b1 b2,f x=some b1∧f y=some b2∧b=.mk k zeroT [b1,b2]:=by
 unfold subBF at h
 simp only[subBL] at h
 cases h1:f x<;>cases h2:f y<;>simp [h1,h2] at h
 exact⟨_,_,rfl,rfl,h.symm⟩
theorem zst {f:Tm→Option Bdy}{k:Int}{x y z:Tm}{b:Bdy}(h:subBF f k [x,y,z]=some b):∃b1 b2 b3,f x=some b1∧f y=some b2∧f z=some b3∧b=.mk k zeroT [b1,b2,b3]:=by
 unfold subBF at h
 simp only[subBL] at h
 cases h1:f x<;>cases h2:f y<;>cases h3:f z<;>simp [h1,h2,h3] at h
 exact⟨_,_,_,rfl,rfl,rfl,h.symm⟩
theorem zq5:∀{m:Nat}{t:Tm}{b:Bdy},bodyF m t=some b→BdR t b:=by
 intro m
 induction m with
 |zero=>intro t b h;cases h
 |succ m ih =>
  intro t b h
  rw[bodyF] at h
  by_cases h1:isNum t
  ·rw[if_pos h1] at h;cases h
  rw[if_neg h1] at h
  by_cases h2:t.kind=1
  ·rw[if_pos h2] at h;cases h;exact .var h2
  rw[if_neg h2] at h
  by_cases h3:t.kind=2∧t.name=sTrue
  ·rw[if_pos h3] at h;cases h;exact .tru h3.1 h3.2
  rw[if_neg h3] at h
  by_cases h4:t.kind=2∧t.name=sExc
  ·rw[if_pos h4] at h;cases h;exact .cut h4.1 h4.2
  rw[if_neg h4] at h
  by_cases h5:isF t sCol
  ·rw[if_pos h5] at h
   obtain⟨x,y,hf⟩:=h5.two
   unfold withinF at h
   rw[hf.a0,hf.a1] at h
   by_cases k1:isNum y∨(x.kind≠2∧x.kind≠1)
   ·rw[if_pos k1] at h;cases h
   rw[if_neg k1] at h
   by_cases k2:x.kind=1∨y.kind=1
   ·rw[if_pos k2] at h;cases h
    exact .mcall hf (by omega) (fun q=>k1 (.inl q)) k2
   rw[if_neg k2] at h
   cases hb:bodyF m y<;>rw[hb] at h<;>cases h
   exact .mod hf (by omega) (by omega) (fun q=>k1 (.inl q)) (ih hb)
  rw[if_neg h5] at h
  by_cases h6:isF t sCma
  ·rw[if_pos h6] at h
   obtain⟨x,y,hf⟩:=h6.two
   rw[hf.2.2] at h
   obtain⟨b1,b2,e1,e2,rfl⟩:=zq4 h
   exact .and hf (ih e1) (ih e2)
  rw[if_neg h6] at h
  by_cases h7:isF t sArr
  ·rw[if_pos h7] at h
   obtain⟨x,y,hf⟩:=h7.two
   rw[hf.2.2] at h
   obtain⟨b1,b2,e1,e2,rfl⟩:=zq4 h
   exact .arr hf (ih e1) (ih e2)
  rw[if_neg h7] at h
  by_cases h8:isF t sSem∧isF (t.at 0) sArr
  ·rw[if_pos h8] at h
   obtain⟨x,y,hf⟩:=h8.1.two
   rw[hf.a0] at h8
   obtain⟨u,w,hg⟩:=h8.2.two
   rw[hf.a0,hf.a1,hg.a0,hg.a1] at h
   obtain⟨b1,b2,b3,e1,e2,e3,rfl⟩:=zst h
   exact .ite hf hg (ih e1) (ih e2) (ih e3)
  rw[if_neg h8] at h
  by_cases h9:isF t sSem
  ·rw[if_pos h9] at h
   obtain⟨x,y,hf⟩:=h9.two
   rw[hf.2.2] at h
   obtain⟨b1,b2,e1,e2,rfl⟩:=zq4 h
   exact .or hf (fun q=>h8 ⟨h9,by rw[hf.a0];exact q⟩) (ih e1) (ih e2)
  rw[if_neg h9] at h
  cases h
  exact .call ⟨h1,h2,h3,h4,h5,h6,h7,h9⟩
theorem isF2.lt {t x y:Tm}{s:ByteArray}(h:isF2 t s x y):SizeOf.sizeOf x < SizeOf.sizeOf t∧SizeOf.sizeOf y < SizeOf.sizeOf t:=⟨z0d (by rw[h.2.2];simp),z0d (by rw[h.2.2];simp)⟩
theorem isF.nn {t:Tm}{s:ByteArray}(h:isF t s):¬isNum t∧t.kind≠1∧∀u,¬(t.kind=2∧t.name=u):=by
 have:=h.1
 exact⟨fun q=>by rcases q with q|q<;>omega,by omega,fun u q=>by omega⟩
theorem zh2:∀{m:Nat}{t:Tm}{b:Bdy},SizeOf.sizeOf t < m→BdR t b→bodyF m t=some b:=by
 intro m
 induction m with
 |zero=>intro t b h;omega
 |succ m ih =>
  intro t b hs h
  have go:∀{s:ByteArray},isF t s→bodyF (m+1) t=(if isF t sCol then withinF (bodyF m) t
    else if isF t sCma then subBF (bodyF m) 4 t.args
    else if isF t sArr then subBF (bodyF m) 6 t.args
    else if isF t sSem∧isF (t.at 0) sArr then subBF (bodyF m) 6 [(t.at 0).at 0,(t.at 0).at 1,t.at 1]
    else if isF t sSem then subBF (bodyF m) 5 t.args
    else some (.mk 3 t [])):=fun hf=>by
   obtain⟨h1,h2,h3⟩:=hf.nn
   rw[bodyF,if_neg h1,if_neg h2,if_neg (h3 _),if_neg (h3 _)]
  cases h with
  |var h=>rw[bodyF,if_neg (fun q=>by rcases q with q|q<;>omega),if_pos h]
  |tru h1 h2=>rw[bodyF,if_neg (fun q=>by rcases q with q|q<;>omega),if_neg (by omega),if_pos ⟨h1,h2⟩]
  |cut h1 h2=>rw[bodyF,if_neg (fun q=>by rcases q with q|q<;>omega),if_neg (by omega),if_neg (fun q=>by rw[h2] at q;exact absurd q.2 (by decide)),if_pos ⟨h1,h2⟩]
  |mcall hf h1 h2 h3 =>
   rw[go hf.f,if_pos hf.f]
   unfold withinF
   rw[hf.a0,hf.a1,if_neg (fun q=>by rcases q with q|q;exact h2 q;omega),if_pos h3]
  |mod hf h1 h2 h3 hb =>
   rw[go hf.f,if_pos hf.f]
   unfold withinF
   rw[hf.a0,hf.a1,if_neg (fun q=>by rcases q with q|q;exact h3 q;omega),if_neg (by omega),ih (by have:=hf.lt;omega) hb]
   rfl
  |and hf hb hd =>
   rw[go hf.f,if_neg (hf.f.ne (by decide)),if_pos hf.f,hf.2.2]
   unfold subBF
   simp only[subBL,ih (by have:=hf.lt;omega) hb,ih (by have:=hf.lt;omega) hd]
   rfl
  |arr hf hb hd =>
   rw[go hf.f,if_neg (hf.f.ne (by decide)),if_neg (hf.f.ne (by decide)),if_pos hf.f,hf.2.2]
   unfold subBF
   simp only[subBL,ih (by have:=hf.lt;omega) hb,ih (by have:=hf.lt;omega) hd]
   rfl
  |ite hf hg hb hd he =>
   have l1:=hf.lt
   have l2:=hg.lt
   rw[go hf.f,if_neg (hf.f.ne (by decide)),if_neg (hf.f.ne (by decide)),if_neg (hf.f.ne (by decide)),if_pos ⟨hf.f,by rw[hf.a0];exact hg.f⟩,hf.a0,hf.a1,hg.a0,hg.a1]
   unfold subBF
   simp only[subBL,ih (by omega) hb,ih (by omega) hd,ih (by omega) he]
   rfl
  |or hf hn hb hd =>
   rw[go hf.f,if_neg (hf.f.ne (by decide)),if_neg (hf.f.ne (by decide)),if_neg (hf.f.ne (by decide)),if_neg (fun q=>hn (by rw[hf.a0] at q;exact q.2)),if_pos hf.f,hf.2.2]
   unfold subBF
   simp only[subBL,ih (by have:=hf.lt;omega) hb,ih (by have:=hf.lt;omega) hd]
   rfl
  |call h=>rw[bodyF,if_neg h.num,if_neg h.var,if_neg h.tru,if_neg h.cut,if_neg h.col,if_neg h.cma,if_neg h.arr,if_neg (fun q=>h.sem q.1),if_neg h.sem]
theorem z1z {t:Tm}:toldB (callB t)=cmpT sCall [t]:=by rw[z2c];rfl
theorem zh3:toldB (.mk 1 zeroT [])=atmT sTrue:=by rw[z2c];rfl
theorem zh4:toldB (.mk 2 zeroT [])=atmT sExc:=by rw[z2c];rfl
theorem zdm {t:Tm}:toldB (.mk 3 t [])=t:=by rw[z2c];rfl
theorem zdn {x:Tm}{b:Bdy}:toldB (.mk 7 x [b])=cmpT sCol [x,toldB b]:=by rw[z2c];rfl
theorem zdo {b d:Bdy}:toldB (.mk 4 zeroT [b,d])=cmpT sCma [toldB b,toldB d]:=by rw[z2c];rfl
theorem zdp {b d:Bdy}:toldB (.mk 5 zeroT [b,d])=cmpT sSem [toldB b,toldB d]:=by rw[z2c];rfl
theorem zdq {b d:Bdy}:toldB (.mk 6 zeroT [b,d])=cmpT sArr [toldB b,toldB d]:=by rw[z2c];rfl
theorem z98 {b d e:Bdy}:toldB (.mk 6 zeroT [b,d,e])=cmpT sSem [cmpT sArr [toldB b,toldB d],toldB e]:=by rw[z2c];rfl
theorem cmp2 {s:ByteArray}{x y:Tm}:isF2 (cmpT s [x,y]) s x y:=⟨rfl,rfl,rfl⟩
theorem zh5 {t:Tm}:Oth (cmpT sCall [t]) :=
 ⟨(fun q=>by rcases q with q|q<;>cases q),(fun q=>by cases q),(fun q=>by cases q.1),(fun q=>by cases q.1),(fun q=>by cases q.2.2),(fun q=>by cases q.2.2),(fun q=>by cases q.2.2),(fun q=>by cases q.2.2)⟩
theorem z3e {s:ByteArray}{l:List Tm}:¬isNum (cmpT s l)∧(cmpT s l).kind≠1:=⟨(fun q=>by rcases q with q|q<;>cases q),(fun q=>by cases q)⟩
theorem zrt {t:Tm}{b:Bdy}(h:BdR t b):BdR (toldB b) b∧¬isNum (toldB b)∧(toldB b).kind≠1∧(isF (toldB b) sArr→isF t sArr):=by
 induction h with
 |var h=>rw[z1z];exact⟨.call zh5,z3e.1,z3e.2,(fun q=>by cases q.2.2)⟩
 |tru h1 h2=>rw[zh3];exact⟨.tru rfl rfl,(fun q=>by rcases q with q|q<;>cases q),(fun q=>by cases q),(fun q=>by cases q.1)⟩
 |cut h1 h2=>rw[zh4];exact⟨.cut rfl rfl,(fun q=>by rcases q with q|q<;>cases q),(fun q=>by cases q),(fun q=>by cases q.1)⟩
 |mcall hf h1 h2 h3=>rw[z1z];exact⟨.call zh5,z3e.1,z3e.2,(fun q=>by cases q.2.2)⟩
 |mod hf h1 h2 h3 hb ih=>rw[zdn];exact⟨.mod cmp2 h1 ih.2.2.1 ih.2.1 ih.1,z3e.1,z3e.2,fun q=>absurd q (cmp2.f.ne (by decide))⟩
 |and hf hb hd i1 i2=>rw[zdo];exact⟨.and cmp2 i1.1 i2.1,z3e.1,z3e.2,fun q=>absurd q (cmp2.f.ne (by decide))⟩
 |arr hf hb hd i1 i2=>rw[zdq];exact⟨.arr cmp2 i1.1 i2.1,z3e.1,z3e.2,fun q=>hf.f⟩
 |ite hf hg hb hd he i1 i2 i3=>rw[z98];exact⟨.ite cmp2 cmp2 i1.1 i2.1 i3.1,z3e.1,z3e.2,fun q=>absurd q (cmp2.f.ne (by decide))⟩
 |or hf hn hb hd i1 i2=>rw[zdp];exact⟨.or cmp2 (fun q=>hn (i1.2.2.2 q)) i1.1 i2.1,z3e.1,z3e.2,fun q=>absurd q (cmp2.f.ne (by decide))⟩
 |call h=>rw[zdm];exact⟨.call h,h.num,h.var,fun q=>q⟩
def szB:Bdy→Nat
 |.mk _ t l=>1+nd t+szBL l
where szBL:List Bdy→Nat
 |[]=>0
 |b :: l=>szB b+szBL l
theorem z4s {t:Tm}{l:List Tm}:nd.ndL (t :: l)=nd t+nd.ndL l:=by rw[nd.ndL]
theorem zq6 (t:Tm):1≤nd t:=by rw[z1m];omega
theorem z5u {s:ByteArray}{x y:Tm}:nd (cmpT s [x,y])=1+nd x+nd y:=by rw[z1m];show 1+nd.ndL [x,y]=_;rw[z4s,z4s,nd.ndL];omega
theorem zbh {s:ByteArray}{x:Tm}:nd (cmpT s [x])=1+nd x:=by rw[z1m];show 1+nd.ndL [x]=_;rw[z4s,nd.ndL,Nat.add_zero]
theorem zid {t x y:Tm}{s:ByteArray}(h:isF2 t s x y):nd t=1+nd x+nd y:=by rw[z1m,h.2.2,z4s,z4s,nd.ndL];omega
theorem z75:nd zeroT=1:=by rw[z1m];rfl
theorem zog {s:ByteArray}:nd (atmT s)=1:=by rw[z1m];rfl
theorem zq7 {t:Tm}{b:Bdy}(hf:Fine t) (h:BdR t b):nd t≤nd (toldB b)∧szB b≤2*nd (toldB b):=by
 have lf:∀{t:Tm},Fine t→t.kind≠5→nd t=1:=fun h k=>by rw[z1m,(z2u (z2t h.node).2.2.1).2.2.2.2 k];rfl
 induction h with
 |var h=>rw[z1z,zbh,callB];simp only[szB,szB.szBL,zbh];omega
 |tru h1 h2=>rw[zh3,zog,lf hf (by omega)];simp only[szB,szB.szBL,z75];omega
 |cut h1 h2=>rw[zh4,zog,lf hf (by omega)];simp only[szB,szB.szBL,z75];omega
 |mcall h h1 h2 h3=>rw[z1z,zbh,callB];simp only[szB,szB.szBL,zbh];omega
 |mod h h1 h2 h3 hb ih =>
  have:=ih (hf.args _ (by rw[h.2.2];simp))
  have hx:=lf (hf.args _ (show _∈_ by rw[h.2.2];exact List.mem_cons_self)) (by omega)
  rw[zdn,z5u,zid h];simp only[szB,szB.szBL];omega
 |and h hb hd i1 i2 =>
  have:=i1 (hf.args _ (by rw[h.2.2];simp));have:=i2 (hf.args _ (by rw[h.2.2];simp))
  rw[zdo,z5u,zid h];simp only[szB,szB.szBL,z75];omega
 |arr h hb hd i1 i2 =>
  have:=i1 (hf.args _ (by rw[h.2.2];simp));have:=i2 (hf.args _ (by rw[h.2.2];simp))
  rw[zdq,z5u,zid h];simp only[szB,szB.szBL,z75];omega
 |ite h hg hb hd he i1 i2 i3 =>
  have hx:=hf.args _ (show _∈_ by rw[h.2.2];exact List.mem_cons_self)
  have:=i1 (hx.args _ (by rw[hg.2.2];simp));have:=i2 (hx.args _ (by rw[hg.2.2];simp));have:=i3 (hf.args _ (by rw[h.2.2];simp))
  rw[z98,z5u,z5u,zid h,zid hg];simp only[szB,szB.szBL,z75];omega
 |or h hn hb hd i1 i2 =>
  have:=i1 (hf.args _ (by rw[h.2.2];simp));have:=i2 (hf.args _ (by rw[h.2.2];simp))
  rw[zdp,z5u,zid h];simp only[szB,szB.szBL,z75];omega
 |call h=>rw[zdm];simp only[szB,szB.szBL];have:=zq6 ‹Tm›;omega
theorem zld {t:Tm}(hn:nodeS t=0) (h:∀u∈t.args,Fine u):Fine t:=by
 unfold Fine
 rw[z4k,if_pos hn]
 have hl:∀l:List Tm,(∀u∈l,Fine u)→allL nodeS l=0:=by
  intro l
  induction l with
  |nil=>intro _;rfl
  |cons u l ih =>
   intro hu
   rw[allL,if_pos (show allE nodeS u=0 from hu u (by simp))]
   exact ih fun v hv=>hu v (List.mem_cons_of_mem _ hv)
 exact hl t.args h
theorem z3b {s:ByteArray}{x y:Tm}(hs:nodeS (cmpT s [zeroT,zeroT])=0) (hx:Fine x) (hy:Fine y):Fine (cmpT s [x,y]) :=
 zld (by rw[show cmpT s [x,y]=.mk 5 s ByteArray.empty 0 0 [x,y] from rfl,z91 (l:=[zeroT,zeroT]) (l':=[x,y]) rfl];exact hs) fun u hu=>by
  rcases List.mem_cons.1 hu with rfl|hu
  ·exact hx
  ·rw[List.mem_singleton.1 hu];exact hy
theorem zdr {s:ByteArray}{x:Tm}(hs:nodeS (cmpT s [zeroT])=0) (hx:Fine x):Fine (cmpT s [x]) :=
 zld (by rw[show cmpT s [x]=.mk 5 s ByteArray.empty 0 0 [x] from rfl,z91 (l:=[zeroT]) (l':=[x]) rfl];exact hs) fun u hu=>by rw[List.mem_singleton.1 hu];exact hx
theorem zle:nodeS (cmpT sCall [zeroT])=0:=by kernel_rfl
theorem zru:nodeS (cmpT sCol [zeroT,zeroT])=0:=by kernel_rfl
theorem zrv:nodeS (cmpT sCma [zeroT,zeroT])=0:=by kernel_rfl
theorem zoh:nodeS (cmpT sArr [zeroT,zeroT])=0:=by kernel_rfl
theorem zoi:nodeS (cmpT sSem [zeroT,zeroT])=0:=by kernel_rfl
theorem zrw:nodeS (cmpT sNck [zeroT,zeroT])=0:=by kernel_rfl
theorem zlf:Fine (atmT sTrue):=(z0h.1 z74).2
theorem zn4:Fine (atmT sExc):=(z0h.1 (show checkS (atmT sExc)=0 by kernel_rfl)).2
theorem isF2.fine {t x y:Tm}{s:ByteArray}(h:isF2 t s x y) (hf:Fine t):Fine x∧Fine y:=⟨hf.args _ (by rw[h.2.2];simp),hf.args _ (by rw[h.2.2];simp)⟩
theorem zds {t:Tm}{b:Bdy}(hf:Fine t) (h:BdR t b):Fine (toldB b):=by
 induction h with
 |var h=>rw[z1z];exact zdr zle hf
 |tru h1 h2=>rw[zh3];exact zlf
 |cut h1 h2=>rw[zh4];exact zn4
 |mcall h h1 h2 h3=>rw[z1z];exact zdr zle hf
 |mod h h1 h2 h3 hb ih=>rw[zdn];exact z3b zru (h.fine hf).1 (ih (h.fine hf).2)
 |and h hb hd i1 i2=>rw[zdo];exact z3b zrv (i1 (h.fine hf).1) (i2 (h.fine hf).2)
 |arr h hb hd i1 i2=>rw[zdq];exact z3b zoh (i1 (h.fine hf).1) (i2 (h.fine hf).2)
 |ite h hg hb hd he i1 i2 i3=>rw[z98];exact z3b zoi (z3b zoh (i1 (hg.fine (h.fine hf).1).1) (i2 (hg.fine (h.fine hf).1).2)) (i3 (h.fine hf).2)
 |or h hn hb hd i1 i2=>rw[zdp];exact z3b zoi (i1 (h.fine hf).1) (i2 (h.fine hf).2)
 |call h=>rw[zdm];exact hf
section
variable {f:Int→Int}
theorem z20 {t:Tm}:(ren f t).kind=t.kind:=by
 by_cases k:t.kind=1
 ·rw[zbg k,k];rfl
 ·rw[z4r k];rfl
theorem z99 {t x y:Tm}{s:ByteArray}(h:isF2 t s x y):isF2 (ren f t) s (ren f x) (ren f y):=by
 rw[z4r (by have:=h.1;omega),h.2.2];exact⟨h.1,h.2.1,rfl⟩
theorem z9a {t:Tm}{s:ByteArray}:isF (ren f t) s↔isF t s:=by
 by_cases k:t.kind=1
 ·rw[zbg k];exact⟨fun q=>(by cases q.1),fun q=>(by have:=q.1;omega)⟩
 ·rw[z4r k]
  exact⟨fun q=>⟨q.1,q.2.1,by have:=q.2.2;simpa [Tm.args] using this⟩,fun q=>⟨q.1,q.2.1,by have:=q.2.2;simpa [Tm.args] using this⟩⟩
theorem z4t {s:ByteArray}{l:List Tm}:ren f (cmpT s l)=cmpT s (l.map (ren f)):=by rw[z4r (by intro q;cases q)];rfl
theorem zlg {s:ByteArray}:ren f (atmT s)=atmT s:=by rw[z4r (by intro q;cases q)];rfl
theorem zew {t:Tm}:isNum (ren f t)↔isNum t:=by unfold isNum;rw[z20]
theorem zq8 {t:Tm}(h:Oth t):Oth (ren f t):=by
 have hn:(ren f t).name=t.name:=by rw[z4r h.var];rfl
 exact⟨fun q=>h.num (zew.1 q),by rw[z20];exact h.var,by rw[z20,hn];exact h.tru,by rw[z20,hn];exact h.cut,fun q=>h.col (z9a.1 q),fun q=>h.cma (z9a.1 q),fun q=>h.arr (z9a.1 q),fun q=>h.sem (z9a.1 q)⟩
theorem zsu {t:Tm}{b:Bdy}(hf:Fine t) (h:BdR t b):∃b',BdR (ren f t) b'∧toldB b'=ren f (toldB b):=by
 induction h with
 |@var t h=>exact⟨callB (ren f t),.var (by rw[z20];exact h),by rw[z1z,z1z,z4t];rfl⟩
 |tru h1 h2=>exact⟨_,.tru (by rw[z20];exact h1) (by rw[z4r (by omega)];exact h2),by rw[zh3,zlg]⟩
 |cut h1 h2=>exact⟨_,.cut (by rw[z20];exact h1) (by rw[z4r (by omega)];exact h2),by rw[zh4,zlg]⟩
 |@mcall t x y h h1 h2 h3=>exact⟨callB (ren f t),.mcall (z99 h) (by rw[z20];exact h1) (fun q=>h2 (zew.1 q)) (by rw[z20,z20];exact h3),by rw[z1z,z1z,z4t];rfl⟩
 |mod h h1 h2 h3 hb ih =>
  obtain⟨b',i1,i2⟩:=ih (h.fine hf).2
  exact⟨_,.mod (z99 h) (by rw[z20];exact h1) (by rw[z20];exact h2) (fun q=>h3 (zew.1 q)) i1,by rw[zdn,zdn,z4t,i2];rfl⟩
 |and h hb hd i1 i2 =>
  obtain⟨b',j1,j2⟩:=i1 (h.fine hf).1
  obtain⟨d',k1,k2⟩:=i2 (h.fine hf).2
  exact⟨_,.and (z99 h) j1 k1,by rw[zdo,zdo,z4t,j2,k2];rfl⟩
 |arr h hb hd i1 i2 =>
  obtain⟨b',j1,j2⟩:=i1 (h.fine hf).1
  obtain⟨d',k1,k2⟩:=i2 (h.fine hf).2
  exact⟨_,.arr (z99 h) j1 k1,by rw[zdq,zdq,z4t,j2,k2];rfl⟩
 |ite h hg hb hd he i1 i2 i3 =>
  obtain⟨b',j1,j2⟩:=i1 (hg.fine (h.fine hf).1).1
  obtain⟨d',k1,k2⟩:=i2 (hg.fine (h.fine hf).1).2
  obtain⟨e',l1,l2⟩:=i3 (h.fine hf).2
  exact⟨_,.ite (z99 h) (z99 hg) j1 k1 l1,by rw[z98,z98,z4t,j2,k2,l2];simp only[List.map_cons,List.map_nil,z4t]⟩
 |or h hn hb hd i1 i2 =>
  obtain⟨b',j1,j2⟩:=i1 (h.fine hf).1
  obtain⟨d',k1,k2⟩:=i2 (h.fine hf).2
  exact⟨_,.or (z99 h) (fun q=>hn (z9a.1 q)) j1 k1,by rw[zdp,zdp,z4t,j2,k2];rfl⟩
 |call h=>exact⟨_,.call (zq8 h),by rw[zdm,zdm]⟩
end
theorem zdt {m:ByteArray}{t:Tm}(h:¬isF t sCol):stripS m t=(m,t,.ok):=by unfold stripS;rw[stripF,if_neg h]
structure Good (b:Bdy):Prop where
 ex:∃u,Fine u∧BdR u b
 few:nd (toldB b)≤4000
theorem Good.fine {b:Bdy}(h:Good b):Fine (toldB b):=by obtain⟨u,h1,h2⟩:=h.ex;exact zds h1 h2
theorem Good.check {b:Bdy}(h:Good b):checkS (toldB b)=0:=z0h.2 ⟨by have:=h.few;rw[z6m _ _ (Nat.lt_succ_self _) 0 (by omega)];omega,h.fine⟩
theorem Good.R {b:Bdy}(h:Good b):BdR (toldB b) b:=by obtain⟨u,h1,h2⟩:=h.ex;exact(zrt h2).1
theorem Good.size {b:Bdy}(h:Good b):szB b≤8000:=by obtain⟨u,h1,h2⟩:=h.ex;have:=(zq7 h1 h2).2;have:=h.few;omega
theorem Good.F {b:Bdy}(h:Good b):bodyF (SizeOf.sizeOf (toldB b)+1) (toldB b)=some b:=zh2 (Nat.lt_succ_self _) h.R
theorem Good.ready {b:Bdy}(h:Good b):readyS (toldB b)=(b,.ok):=by
 unfold readyS
 rw[if_neg (fun q=>q h.check),h.F]
 simp only
 rw[if_neg (by have:=h.few;rw[z6m _ _ (Nat.lt_succ_self _) 0 (by omega)];omega)]
theorem zsv {t:Tm}{n:Nat}(h:cnt t 0≤n) (hn:n≤4000):nd t≤n:=by
 have:=zd6 _ t (Nat.lt_succ_self _) 0 (by omega);omega
structure GoodC (c:Cls):Prop where
 good:Good c.body
 head:checkS c.head=0
 col:¬isF c.head sCol
 var:c.head.kind≠1
 num:¬isNum c.head
 few:nd c.head+nd (toldB c.body)≤400
 fix:plainL [c.head,toldB c.body]=[c.head,toldB c.body]
 vars:c.vars=(uniq (occL [c.head,toldB c.body])).length
def wholeC (c:Cls):Tm:=cmpT sNck [c.head,toldB c.body]
theorem GoodC.check {c:Cls}(h:GoodC c):checkS (wholeC c)=0:=by
 refine z0h.2 ⟨?_,z3b zrw (z0h.1 h.head).2 h.good.fine⟩
 have e:nd (wholeC c)=1+nd c.head+nd (toldB c.body):=z5u
 have:=h.few
 rw[z6m _ _ (Nat.lt_succ_self _) 0 (by omega)];omega
theorem GoodC.read {c:Cls}(h:GoodC c) (m:ByteArray):readS m (wholeC c)=(m,c,.ok):=by
 have hw:isF2 (wholeC c) sNck c.head (toldB c.body):=cmp2
 have hf:=h.few
 unfold readS
 rw[if_neg (fun q=>q h.check),zdt (hw.f.ne (by decide))]
 simp only
 unfold headOf restOf readH
 rw[if_pos hw.f,if_pos hw.f,hw.a0,hw.a1,zdt h.col]
 simp only
 unfold readB
 rw[if_neg h.var,if_neg h.num,h.good.F]
 simp only
 rw[z6m _ _ (Nat.lt_succ_self _) 0 (by omega),z6m _ _ (Nat.lt_succ_self _) 0 (by omega),if_neg (by omega)]
 have hm:madeC c.head (toldB c.body)=c:=by
  unfold madeC
  rw[h.fix]
  show Cls.mk c.head (readyS (toldB c.body)).1 _=c
  rw[h.good.ready]
  show Cls.mk c.head c.body _=c
  rw[←h.vars]
 rw[hm]
end Go.Proofs.hq
end
