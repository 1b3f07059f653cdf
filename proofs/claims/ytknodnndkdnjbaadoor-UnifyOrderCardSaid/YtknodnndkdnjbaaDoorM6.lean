import Derived.Test.YtknodnndkdnjbaaDoorM3
import Derived.Test.YtknodnndkdnjbaaDoorM5
import Derived.Test.YtknodnndkdnjbaaDoorM4
/- Lemmas on the program's own code, towards the laws of this folder, part 6. Conditions: as each lemma says. -/
open Bool renaming false_eq_true → Zg, not_eq_true → Zz
open ByteArray renaming empty → Ze
open Int renaming eq_ofNat_of_zero_le → Zo
open List renaming append_assoc → ZI, drop_eq_getElem_cons → ZB, foldl_cons → ZL, getElem?_eq_getElem → Zc, getElem?_map → Zl, getElem?_take → ZH, getElem_mem → ZF, length_append → Zs, length_cons → ZJ, length_map → Zn, length_take → Zt, map_append → ZE, mem_cons_of_mem → Zj, prefix_refl → Zy, range → Zh, take_append_getElem → ZK
open Nat renaming le_refl → Zd, le_trans → Zp, lt_of_lt_of_le → Zk, lt_succ_self → Zf, reduceAdd → Zb, reduceEqDiff → Za, reduceLeDiff → Zm, zero_le → ZA
section
namespace Go.Proofs.hq
open Go Go.RowKit Go.Hb
variable {ok:Ok}
set_option maxRecDepth 10000
attribute [local irreducible] LX LG EL STG SOP SGO SGD SAL SRD SEF SEG SLK SCK ES
set_option maxHeartbeats 8000000 in
theorem ze1 {H:Heap}{B s:Nat}{σ:SS}{x y:Int × Int}{t t':Tm}(hT:TOk σ) (hs:St H B s σ) (hw:H.wf) (ho:σ.own.length=σ.cells.length) (rx:RC σ x t) (ry:RC σ y t') (hn:nd t≤4000) :
  EvF Tryd.prog okT 6 [.pointer (some ⟨s,0,none⟩),.agg ⟨two x⟩,.agg ⟨two y⟩] H fun r H'=>r=.tuple ⟨[.int .i64 (ordT t t'),.int .i64 0]⟩∧HX H H':=by
 refine EvF.enter rfl Tryd.func6 (by decide) rfl ?_;(repeat refine EvC.seq ?_);refine EvC.reg ?_;simp (config := { maxSteps := 2000000 }) (disch:=first|omega|rfl) only[sB,initTm,dBox,Za,Zb,Value.cells,one,reduceCtorEq];obtain⟨H1,e1,hx1,g1,g2,n1,w1⟩:=new2 hw (.row (two x) 29) (.row (two y) 29);simp only[e1];have q1:=z0s g1;have q2:=z0s g2
 repeat' (first|refine EvC.seq ?_|(refine EvC.reg ?_;simp (config := { maxSteps := 2000000 }) (disch:=first|omega|rfl) only[sB,Za,Zb,Value.cells,one,reduceCtorEq,Zm,layC,ld29,zqh,cl22,q1,q2]))
 obtain⟨H2,e2,hx2,g3,n2,w2⟩:=new1 w1 (.row [.int .i64 x.1,.int .i64 x.2,.int .i64 y.1,.int .i64 y.2] 29);simp only[e2];have hs2:=(hs.keep hw hx1).keep w1 hx2;have ld1:H2.load ⟨H1.next,0,none⟩ 2=some (two x):=by simp only[Heap.load,Heap.cells,g3];rfl
 have ld2:H2.load ⟨H1.next,0+2,none⟩ 2=some (two y):=by simp only[Heap.load,Heap.cells,g3];rfl
 refine(zq1 hs2 w2 ho (fun c h=>by obtain⟨m,d,hd,-⟩:=hT.go c h;exact⟨m,d,hd⟩) rx.may ry.may ld1 ld2).mono ?_;rintro r H3 ⟨rfl,hx3⟩;have w3:=hx3.wf;have q1:=z0s (hx3.get w2 (hx2.get w1 g1));have q2:=z0s (hx3.get w2 (hx2.get w1 g2));have hx13:=(hx1.trans hx2).trans hx3;obtain⟨H4,e4,hx4,g4,n4,w4⟩:=new1 w3 (.row [.int .i64 x.1,.int .i64 x.2,.int .i64 y.1,.int .i64 y.2] 57)
 repeat' (first|refine EvC.seq ?_|refine EvC.block ?_|(refine EvC.skip ?_;try simp only[z00])|(refine EvC.reg ?_;simp (config := { maxSteps := 2000000 }) (disch:=first|omega|rfl) only[sB,Za,Zb,Value.cells,one,reduceCtorEq,Zm,layC,ld29,bd57,zo0,z22 rfl,q1,q2,e4])|(refine EvC.condF ?_ ?_;simp (config := { maxSteps := 2000000 }) (disch:=first|omega|rfl) only[sB,Za,reduceCtorEq];refine z01 ?_))
 have ro4:RepO H4 57 4 H3.next ([(x,y)].map four) (.slice (some ⟨H3.next,0,none⟩) 1 1):=by
  refine .inr ⟨H3.next,1,?_,rfl⟩;rw[←e4];exact OwnS.first (y:=four (x,y)) rfl rfl (Zd _)
 refine EvC.loop (fun k st=>∃(tm:Tr Value) (G:Heap) (n:Nat) (v:Value) (L:List ((Int × Int) × (Int × Int))) (P:List (Tm × Tm)),st=⟨tm,[],G⟩∧tm.get 0=some (.pointer (some ⟨s,0,none⟩))∧tm.get 9=some v∧tm.get 10=some (.int .i64 (n:Nat))∧RepO G 57 4 H3.next (L.map four) v∧L.length=P.length ∧
   (∀(i:Nat) (p:(Int × Int) × (Int × Int)) (u:Tm × Tm),L[i]?=some p→P[i]?=some u→RC σ p.1 u.1∧RC σ p.2 u.2)∧ordP P.reverse=ordT t t'∧n+(P.map fun u=>nd u.1).sum≤4001∧1≤n∧k=(P.map fun u=>nd u.1).sum∧H4.next≤G.next∧HX H G) ?_ (nd t) _ ?_
 rotate_left
 ·refine⟨_,_,1,_,[(x,y)],[(t,t')],rfl,(by simp only[sG,reduceCtorEq]),(by simp only[sG,Za,reduceCtorEq]),(by simp only[sB,Za,reduceCtorEq];rfl),ro4,rfl,fun i p u hp hu=>?_,?_,by simp;omega,Zd _,by simp,Zd _,hx13.trans hx4⟩
  ·match i,hp,hu with
   |0,hp,hu=>cases hp;cases hu;exact⟨rx,ry⟩
  ·show ordP [(t,t')]=_;rw[ordP,ordP,zrf]
 rintro k st ⟨tm,G,n,v,L,P,rfl,t0,t9,t10,hro,hlp,hrc,hord,hsum,hn1,rfl,hnG,hxG⟩;obtain⟨a,c,rfl,hlc,hcm⟩:=hro.slice;rw[Zn] at t9 hlc hro;have wG:=hxG.wf;have hsG:=hs.keep hw hxG;have hml:maxLen=9223372036854775807:=rfl;by_cases h0:L.length=0
 ·have d0:decide ((L.length:Int) > 0)=false:=decide_eq_false (by omega);have hP:P=[]:=List.length_eq_zero_iff.1 (by omega);subst hP
  repeat' (first|refine EvC.seq ?_|(refine EvC.exit ?_;try simp only[sB])|(refine EvC.ret ?_)|(refine EvC.reg ?_;simp (config := { maxSteps := 2000000 }) (disch:=first|omega|rfl) only[sB,Za,ln58,t9,d0])|(refine EvC.condF ?_ ?_;simp (config := { maxSteps := 2000000 }) (disch:=first|omega|rfl) only[sB,Za];refine z01 ?_))
  exact z0t rfl (by simp only[sB,Za];rfl) (by simp only[sB,Za];rfl) ⟨by rw[←hord];rfl,hxG⟩
 have d0:decide ((L.length:Int) > 0)=true:=decide_eq_true (by omega);have d1:decide ((n:Int) > 20000)=false:=decide_eq_false (by omega);(repeat refine EvC.seq ?_);refine EvC.reg ?_;simp (config := { maxSteps := 2000000 }) (disch:=first|omega|rfl) only[sB,Za,ln58,t9,d0];refine EvC.condT (by simp (config := { maxSteps := 2000000 }) (disch:=first|omega|rfl) only[sB,Za]) ?_;(try refine EvC.skip ?_);(try simp only[z00,z0m]);obtain⟨L',p,rfl⟩:∃L' p,L=L'++[p]:=⟨L.dropLast,L.getLast (fun h=>h0 (by rw[h];rfl)),(List.dropLast_concat_getLast _).symm⟩
 obtain⟨P',u,rfl⟩:∃P' u,P=P'++[u]:=⟨P.dropLast,P.getLast (fun h=>h0 (by rw[hlp,h];rfl)),(List.dropLast_concat_getLast _).symm⟩
 have hll:L'.length=P'.length:=by simpa using hlp
 obtain⟨r1,r2⟩:=hrc L'.length p u (by simp) (by simp [hll]);obtain⟨b,c',how,hv⟩:=hro.own (by simp);have ldp:=how.load (i:=L'.length) (x:=four p) (by simp);rw[four] at ldp;simp only[Zn,Zs,List.length_singleton] at hv t9 hlc;obtain⟨rfl,rfl⟩:a=some ⟨b,0,none⟩∧c=c':=by injection hv with h1 h2 h3;exact⟨h1,h3⟩
 have ew:IntKind.i64.wrap (((L'.length+1:Nat):Int) - 1)=(L'.length:Int):=by rw[z0b]<;>omega
 have hlt1:L'.length < L'.length+1:=Zf _;(repeat refine EvC.seq ?_);refine EvC.block ?_;(repeat refine EvC.seq ?_);refine EvC.reg ?_;simp (config := { maxSteps := 2000000 }) (disch:=first|omega|rfl) only[sB,Za,t10,d1];refine EvC.condF (by simp (config := { maxSteps := 2000000 }) (disch:=first|omega|rfl) only[sB,Za]) ?_;(try refine EvC.skip ?_);(try simp only[z00,z0m]);(repeat refine EvC.seq ?_);refine EvC.reg ?_;simp (config := { maxSteps := 2000000 }) (disch:=first|omega|rfl) only[sB,dAlloc,Za,Zb,one,ln58,ia58,ld57,zr57,st57,t9,ew,ldp];(try simp (config := { maxSteps := 2000000 }) (disch:=first|omega|rfl) only[]);obtain⟨G1,f1,hy1,k1,m1,v1⟩:=z0k wG (.row [.int .i64 0,.int .i64 0,.int .i64 0,.int .i64 0] 57) (.row [.int .i64 p.1.1,.int .i64 p.1.2,.int .i64 p.2.1,.int .i64 p.2.2] 57);simp only[f1];have sl1:=znm (P:=Tryd.prog) (H:=G1) (t:=58) (e:=57) (s:=4) (a:=some ⟨b,0,none⟩) (n:=L'.length+1) (c:=c) (m:=L'.length) (k:=.i64) sl58 (by omega);have sg1:=hsG.keep wG hy1;have kp:G1.load ⟨G.next,0,none⟩ 2=some (two p.1):=by simp only[Heap.load,Heap.cells,k1];rfl
 have kq:G1.load ⟨G.next,2,none⟩ 2=some (two p.2):=by simp only[Heap.load,Heap.cells,k1];rfl
 repeat' (first|refine EvC.seq ?_|(refine EvC.reg ?_;simp (config := { maxSteps := 2000000 }) (disch:=first|omega|rfl) only[sB,Za,reduceCtorEq,ld29,ln58,zqi,cl23,t9,t0,sl1,ew,kp]))
 refine(z3t sg1 v1 ho (fun h=>by obtain⟨m,d,hd,-⟩:=hT.go _ h;exact⟨m,d,hd⟩)).mono ?_;rintro r G2 ⟨d,e,rfl,hde,hy2⟩;rw[if_pos r1.may] at hde;obtain⟨rfl,m1',hd1⟩:=hde;have:=r1.der hd1;subst this;have v2:=hy2.wf;have k2:=hy2.get v1 k1;(try simp (config := { maxSteps := 2000000 }) (disch:=first|omega|rfl) only[sB,dAlloc,Za,Zb,one,zr29,st29]);obtain⟨G3,f3,hy3,k3,m3,v3⟩:=z0k v2 (.row [.int .i64 0,.int .i64 0] 29) (.row (two p.1) 29);simp only[f3];have sg3:=(sg1.keep v1 hy2).keep v2 hy3;have kq3:G3.load ⟨G.next,2,none⟩ 2=some (two p.2):=by have:=hy3.get v2 k2;simp only[Heap.load,Heap.cells,this];rfl
 repeat' (first|refine EvC.seq ?_|(refine EvC.reg ?_;simp (config := { maxSteps := 2000000 }) (disch:=first|omega|rfl) only[sB,Za,reduceCtorEq,ld29,cl23,zqj,t0,kq3]))
 refine(z3t sg3 v3 ho (fun h=>by obtain⟨m,d,hd,-⟩:=hT.go _ h;exact⟨m,d,hd⟩)).mono ?_;rintro r G4 ⟨d,e,rfl,hde,hy4⟩;rw[if_pos r2.may] at hde;obtain⟨rfl,m2',hd2⟩:=hde;have:=r2.der hd2;subst this;have v4:=hy4.wf;have k4:=hy4.get v3 k3;(try simp (config := { maxSteps := 2000000 }) (disch:=first|omega|rfl) only[sB,dAlloc,Za,Zb,one,zr29,st29]);obtain⟨G5,f5,hy5,k5,m5,v5⟩:=z0k v4 (.row [.int .i64 0,.int .i64 0] 29) (.row (two p.2) 29);simp only[f5];have sg5:=(sg3.keep v3 hy4).keep v4 hy5;have q12:=z0s (hy5.get v4 k4);have q14:=z0s k5
 repeat' (first|refine EvC.seq ?_|(refine EvC.drw (id:=14) [([(0,0),(1,0)],some 2),([(3,0),(4,0)],some 5),([],some 6),([(7,3),(8,3),(9,3),(10,3),(11,3)],none)] ?_ ?_;kernel_rfl;simp (config := { maxSteps := 2000000 }) (disch:=first|omega|rfl) only[sD,sB,Za,Zb,reduceCtorEq,ld29,cl24,t0,q12,isAlloc,isRead]))
 obtain⟨G6,f6,hy6,v6⟩:=z8g v5 12;simp only[f6];have sg6:=sg5.keep v5 hy6;refine(zle sg6 v6 ho r1.rd r1.may r1.fine r1.bd).mono ?_;rintro r G7 ⟨hy7,o1,rfl,rp1⟩;have v7:=hy7.wf;(try simp (config := { maxSteps := 2000000 }) (disch:=first|omega|rfl) only[]);have q14':=z0s (hy7.get v6 (hy6.get v5 k5));have q14s:=z0s (hy6.get v5 k5)
 repeat' (first|(refine z2r ?_;simp (config := { maxSteps := 2000000 }) (disch:=first|omega|rfl) only[sV,sD,sB,Za,reduceCtorEq,ld29,cl24,t0,q14',q14s,isAlloc,isRead]))
 refine(zle (sg6.keep v6 hy7) v7 ho r2.rd r2.may r2.fine r2.bd).mono ?_;rintro r G8 ⟨hy8,o2,rfl,rp2⟩;have v8:=hy8.wf
 repeat' (first|(refine z2r ?_;simp (config := { maxSteps := 2000000 }) (disch:=first|omega|rfl) only[sD,sB,Za,cl7]))
 refine(z99 (rp1.mono hy8 v7) rp2 v8).mono ?_;rintro r G9 ⟨rfl,hy9⟩;have hc0:chkL [flatT u.1,flatT u.2]=0:=zn1 r1.fine r2.fine;rw[if_pos hc0,hc0];have v9:=hy9.wf
 repeat' (first|refine EvC.seq ?_|(refine EvC.reg ?_;simp (config := { maxSteps := 2000000 }) (disch:=first|omega|rfl) only[sB,Za])|(refine z2r ?_;simp (config := { maxSteps := 2000000 }) (disch:=first|omega|rfl) only[sD,sB,Za,Zb,isAlloc,isRead]))
 have hx9:HX H G9:=((((((((hxG.trans hy1).trans hy2).trans hy3).trans hy4).trans hy5).trans hy6).trans hy7).trans hy8).trans hy9;by_cases hz:ordT (flatT u.1) (flatT u.2)=0;rotate_left
 ·refine EvC.condT (by simp (config := { maxSteps := 2000000 }) (disch:=first|omega|rfl) only[sB,Za,z3r hz]) ?_;(try refine EvC.skip ?_);(try simp only[z00,z0m])
  repeat' (first|refine EvC.seq ?_|(refine EvC.reg ?_;simp (config := { maxSteps := 2000000 }) (disch:=first|omega|rfl) only[sB,Za,cl25]))
  refine z63.mono ?_;rintro r G10 ⟨rfl,rfl⟩
  repeat' (first|(refine EvC.ret ?_;try simp only[z05,z04]))
  refine z0t rfl (by simp only[sB,Za];rfl) (by simp only[sB,Za];rfl) ⟨?_,hx9⟩;have ek:∀{w:Tm},Fine w→1≤w.kind∧w.kind≤5:=fun h=>⟨(z0j h.node).1,(z0j h.node).2.1⟩
  have eo:=(zcg (ek r1.fine) (ek r2.fine)).1;have er:=z97 (flatT u.1) (flatT u.2);have ec:cmpZ (ordT (flatT u.1) (flatT u.2)) 0=ordT (flatT u.1) (flatT u.2):=by unfold cmpZ;repeat' split<;>omega
  have e2':ordT t t'=ordT (flatT u.1) (flatT u.2):=by
   rw[←hord,List.reverse_append,List.reverse_singleton,List.singleton_append,ordP,eo,zce];unfold orZ;rw[if_neg hz]
  rw[ec,e2']
 refine EvC.condF (by simp (config := { maxSteps := 2000000 }) (disch:=first|omega|rfl) only[sB,Za,z22 hz]) ?_;(try refine EvC.skip ?_);(try simp only[z00,z0m]);have hyG:HX G G9:=((((((((hy1.trans hy2).trans hy3).trans hy4).trans hy5).trans hy6).trans hy7).trans hy8).trans hy9)
 have k12:=z0s (hy9.get v8 (hy8.get v7 (hy7.get v6 (hy6.get v5 (hy5.get v4 k4)))));have g14:=hy9.get v8 (hy8.get v7 (hy7.get v6 (hy6.get v5 k5)));have sg9:=(((sg6.keep v6 hy7).keep v7 hy8).keep v8 hy9)
 have roL:RepO G9 57 4 H3.next (L'.map four) (.slice (some ⟨b,0,none⟩) L'.length c):=by
  have:=RepO.takeO (how.keep hyG) L'.length (by simp)
  rwa [ZE,List.take_left' (by simp)] at this
 have n9:H4.next≤G9.next:=Zp hnG hyG.next;have hN:n+1≤20001:=by omega
 have ek:∀{w:Tm},Fine w→1≤w.kind∧w.kind≤5:=fun h=>⟨(z0j h.node).1,(z0j h.node).2.1⟩
 obtain⟨eo,hkk⟩:=zcg (ek r1.fine) (ek r2.fine);obtain⟨hk1,hk2⟩:=hkk hz;have hrc':Rel2 (fun (p:(Int × Int) × (Int × Int)) (u:Tm × Tm)=>RC σ p.1 u.1∧RC σ p.2 u.2) L' P':=Rel2.left (L':=[p]) (P':=[u]) ⟨hlp,hrc⟩ hll;rw[List.reverse_append,List.reverse_singleton,List.singleton_append,ordP,eo,hz,zcf] at hord;rw[ZE,List.sum_append,List.map_singleton,List.sum_singleton] at hsum ⊢;have hnd1:=z1p u.1;have en1:IntKind.i64.wrap ((n:Int)+1)=((n+1:Nat):Int):=by rw[z0b]<;>omega
 clear e1 e2 e4 f1 f3 f5 f6;refine EvC.frame (fun tm=>tm.get 0=some (.pointer (some ⟨s,0,none⟩))∧tm.get 9=some (.slice (some ⟨b,0,none⟩) L'.length c)∧tm.get 10=some (.int .i64 (n:Nat))∧tm.get 12=some (.pointer (some ⟨G2.next,0,none⟩))∧tm.get 14=some (.pointer (some ⟨G4.next,0,none⟩))) ⟨(by simp only[sG,reduceCtorEq,t0]),(by simp only[sG,Za]),(by simp only[sG,Za,t10]),(by simp only[sG,Za]),(by simp only[sG,Za])⟩ ?_;clear t0 t9 t10;rintro tm ⟨t0,t9,t10,t12,t14⟩;by_cases h5:u.1.kind=5;rotate_left
 ·have ht:=r1.nstr h5;rw[if_neg h5,zcf] at hord
  repeat' (first|refine EvC.seq ?_|(refine EvC.exit ?_;try simp only[sB,reduceCtorEq])|(refine EvC.reg ?_;simp (config := { maxSteps := 2000000 }) (disch:=first|omega|rfl) only[sB,Za,z14,ld3,t12,k12,z3r ht])|(refine EvC.condT ?_ ?_;simp (config := { maxSteps := 2000000 }) (disch:=first|omega|rfl) only[sB,Za];refine z01 ?_))
  repeat' (first|(refine z0n ?_;simp (config := { maxSteps := 2000000 }) (disch:=first|omega|rfl) only[sB,Za,t10,en1]))
  exact⟨_,by omega,_,G9,n+1,_,L',P',rfl,(by simp only[sG,reduceCtorEq,t0]),(by simp only[sG,Za,t9]),(by simp only[sG,Za]),roL,hll,hrc'.2,hord,by omega,by omega,rfl,n9,hx9⟩
 rw[if_pos h5] at hord;have h5':u.2.kind=5:=by rw[←hk1];exact h5
 obtain⟨pa,fa,na,la,ea,eat,la1,la2,lpa,lca,lfa,lba⟩:=r1.str h5;obtain⟨pb,fb,nb,lb,eb,ebt,lb1,lb2,lpb,lcb,lfb,lbb⟩:=r2.str h5';have hll2:la.length=lb.length:=by have:=hk2 h5;rw[eat,ebt] at this;exact this
 rw[ea] at k12 r1;rw[eb] at g14 r2;rw[eat] at r1;rw[ebt] at r2;have hcells:Rel2 (fun (p:(Int × Int) × (Int × Int)) (u:Tm × Tm)=>RC σ p.1 u.1∧RC σ p.2 u.2) (((σ.cells.drop (pa+1)).take la.length).zip ((σ.cells.drop (pb+1)).take lb.length)) (la.zip lb):=(r1.cells hT lba).zip (r2.cells hT lbb) fun a a' b b' h h'=>⟨h,h'⟩
 have hord2:ordP (P'++(la.zip lb).reverse).reverse=ordT t t':=by
  rw[List.reverse_append,List.reverse_reverse,zg4,zg5 la lb hll2,←hord,eat,ebt];rfl
 have hsum2:((P'++(la.zip lb).reverse).map fun u=>nd u.1).sum=(P'.map fun u=>nd u.1).sum+nd.ndL la:=by
  rw[ZE,List.sum_append,List.map_reverse,zq2,zlf hll2]
 have hnd2:nd.ndL u.1.args=nd.ndL la:=by rw[eat];rfl
 have hPl:=zlg P';clear eo hkk hz;have w9:=hx9.wf
 repeat' (first|refine EvC.seq ?_|(refine EvC.skip ?_;try simp only[z00])|(refine EvC.reg ?_;simp (config := { maxSteps := 2000000 }) (disch:=first|omega|rfl) only[sB,Za,reduceCtorEq,ld29,z14,ld3,cl26,t12,k12,z22 rfl,t0])|(refine EvC.condF ?_ ?_;simp (config := { maxSteps := 2000000 }) (disch:=first|omega|rfl) only[sB,Za];refine z01 ?_))
 refine(za9 sg9 w9 ho r1.may la1 la2 lca lfa lba lpa).mono ?_;rintro r G10 ⟨hy10,qa,rfl,ga,hqa⟩;(try simp (config := { maxSteps := 2000000 }) (disch:=first|omega|rfl) only[sB,dAlloc,Za,Zb,one,zr63,st63]);obtain⟨G11,f11,hy11,k18,m11,v11⟩:=z0k hy10.wf (.row (keyC (Ze,0)) 63) (.row (keyC (na,(la.length:Int))) 63);simp only[f11];have sg11:=(sg9.keep w9 hy10).keep hy10.wf hy11;have k14:=z0s (hy11.get hy10.wf (hy10.get w9 g14))
 repeat' (first|refine EvC.seq ?_|(refine EvC.reg ?_;simp (config := { maxSteps := 2000000 }) (disch:=first|omega|rfl) only[sB,Za,reduceCtorEq,ld29,cl26,t0,t14,k14]))
 refine(za9 sg11 v11 ho r2.may lb1 lb2 lcb lfb lbb lpb).mono ?_;rintro r G12 ⟨hy12,qb,rfl,gb,hqb⟩;(try simp (config := { maxSteps := 2000000 }) (disch:=first|omega|rfl) only[sB,dAlloc,Za,Zb,one,zr63,st63]);obtain⟨G13,f13,hy13,k21,m13,v13⟩:=z0k hy12.wf (.row (keyC (Ze,0)) 63) (.row (keyC (nb,(lb.length:Int))) 63);simp only[f13];have hy1013:=((hy10.trans hy11).trans hy12).trans hy13;have ga13:=hy13.get hy12.wf (hy12.get v11 (hy11.get hy10.wf ga));have gb13:=hy13.get hy12.wf gb;have ro13:=roL.keep hy1013;have hx13':=hx9.trans hy1013;have n13:H4.next≤G13.next:=Zp n9 hy1013.next;refine EvC.frame (fun tm=>tm.get 0=some (.pointer (some ⟨s,0,none⟩))∧tm.get 9=some (.slice (some ⟨b,0,none⟩) L'.length c)∧tm.get 10=some (.int .i64 (n:Nat))∧tm.get 19=some (.slice (some ⟨qa,0,none⟩) la.length la.length)∧tm.get 22=some (.slice (some ⟨qb,0,none⟩) lb.length lb.length)) ⟨(by simp only[sG,reduceCtorEq,t0]),(by simp only[sG,Za,t9]),(by simp only[sG,Za,t10]),(by simp only[sG,Za]),(by simp only[sG,Za])⟩ ?_;clear t0 t9 t10 t12 t14 f11 f13;rintro tm ⟨t0,t9,t10,t19,t22⟩
 have ew2:IntKind.i64.wrap ((la.length:Int) - 1)=(la.length:Int) - 1:=by rw[z0b]<;>omega
 (repeat refine EvC.seq ?_);refine EvC.reg ?_;simp (config := { maxSteps := 2000000 }) (disch:=first|omega|rfl) only[sB,Za,ln64,t19,ew2];generalize hA:(((σ.cells.drop (pa+1)).take la.length).zip ((σ.cells.drop (pb+1)).take lb.length))=A at hcells;have hAl:A.length=la.length:=by rw[hcells.1,List.length_zip];omega
 have hn3:H.next≤H3.next:=hx13.next;refine EvC.join (fun st=>∃(tm:Tr Value) (K:Heap) (v:Value),st=⟨tm,[],K⟩∧tm.get 0=some (.pointer (some ⟨s,0,none⟩))∧tm.get 9=some v∧tm.get 10=some (.int .i64 (n:Nat))∧RepO K 57 4 H3.next ((L'++A.reverse).map four) v∧H4.next≤K.next∧HX H K) ?_ ?_
 ·refine EvC.block (EvC.loop (fun k' st=>∃(tm:Tr Value) (K:Heap) (i:Nat) (v:Value),st=⟨tm,[],K⟩∧k'=i∧i≤la.length∧tm.get 0=some (.pointer (some ⟨s,0,none⟩))∧tm.get 9=some v∧tm.get 10=some (.int .i64 (n:Nat))∧tm.get 19=some (.slice (some ⟨qa,0,none⟩) la.length la.length)∧tm.get 22=some (.slice (some ⟨qb,0,none⟩) lb.length lb.length)∧tm.get 24=some (.int .i64 ((i:Int) - 1)) ∧
   RepO K 57 4 H3.next ((L'++(A.drop i).reverse).map four) v∧K.get qa=some (.row (((σ.cells.drop (pa+1)).take la.length).map two).flatten 29)∧K.get qb=some (.row (((σ.cells.drop (pb+1)).take lb.length).map two).flatten 29)∧G13.next≤K.next∧HX H K) ?_ la.length _ ?_)
  rotate_left
  ·exact⟨_,_,la.length,_,rfl,rfl,Zd _,(by simp only[sG,reduceCtorEq,t0]),(by simp only[sB,Za,t9];rfl),(by simp only[sG,Za,t10]),(by simp only[sG,Za,t19]),(by simp only[sG,Za,t22]),(by simp only[sG,Za]),by rw[List.drop_eq_nil_of_le (by omega)];simpa using ro13,ga13,gb13,Zd _,hx13'⟩
  rintro i st ⟨tm,K,i',v,rfl,rfl,hi,t0,t9,t10,t19,t22,t24,hro,gqa,gqb,hnK,hxK⟩;have wK:=hxK.wf;by_cases hi0:i=0
  ·subst hi0;have d:decide ((((0:Nat):Int) - 1) ≥ 0)=false:=by decide
   repeat' (first|refine EvC.seq ?_|(refine EvC.exit ?_;try simp only[sB,Za,reduceCtorEq])|(refine EvC.reg ?_;simp (config := { maxSteps := 2000000 }) (disch:=first|omega|rfl) only[sB,t24,d])|(refine EvC.condF ?_ ?_;simp (config := { maxSteps := 2000000 }) (disch:=first|omega|rfl) only[sB,Za];refine z01 ?_))
   exact⟨_,_,v,rfl,(by simp only[sG,reduceCtorEq,t0]),(by simp only[sG,Za,t9]),(by simp only[sG,Za,t10]),hro,Zp n13 hnK,hxK⟩
  ·obtain⟨j,rfl⟩:∃j,i=j+1:=⟨i - 1,by omega⟩
   have ej:((j+1:Nat):Int) - 1=(j:Int):=by omega
   rw[ej] at t24;have d:decide ((j:Int) ≥ 0)=true:=decide_eq_true (by omega);have hja:j < la.length:=by omega
   have hjb:j < lb.length:=by omega
   have hjA:j < A.length:=by omega
   have hz':(((σ.cells.drop (pa+1)).take la.length).zip ((σ.cells.drop (pb+1)).take lb.length))[j]?=some A[j]:=by rw[hA];exact Zc hjA
   have hdr:A.drop j=A[j] :: A.drop (j+1):=ZB hjA;generalize A[j]=w at *;obtain⟨wa,wb⟩:=w;rw[List.getElem?_zip_eq_some] at hz';have lda:=zog wK gqa (by rw[Zt];omega) hz'.1;have ldb:=zog wK gqb (by rw[Zt];omega) hz'.2;obtain⟨K1,g1,hk1,gK1,wK1⟩:=zh9 wK 13 10 (by omega) (.row (four (wa,wb)) 57);have ldK:K1.load ⟨K.next+10,0,none⟩ 4=some (four (wa,wb)):=by simp only[Heap.load,Heap.cells,gK1];rfl
   have nK1:K1.next=K.next+13:=by rw[←g1];rfl
   have hxK1:=hxK.trans hk1;obtain⟨K2,v2,e2,hro2,n2',hkA,hkg⟩:=(hro.keep hk1).pushAt (P:=Tryd.prog) ap58 ldK rfl rfl (by rw[Zn,Zs,List.length_reverse,List.length_drop];unfold most;omega) (by have:=hxK1.next;have:=hx4.next;omega);have ew3:IntKind.i64.wrap ((j:Int) - 1)=(j:Int) - 1:=by rw[z0b]<;>omega
   simp only[four] at g1
   repeat' (first|refine EvC.seq ?_|refine EvC.block ?_|(refine EvC.skip ?_;try simp only[z00])|(refine EvC.reg ?_;simp (config := { maxSteps := 2000000 }) (disch:=first|omega|rfl) only[sB,Za,t24,d,ew3])|(refine EvC.drw (id:=23) [([(0,0),(1,0),(2,0),(3,0),(4,0),(5,0),(6,0),(7,0),(8,0),(9,0),(10,0)],some 11),([(12,1)],none)] ?_ ?_;kernel_rfl;simp (config := { maxSteps := 2000000 }) (disch:=first|omega|rfl) only[sD,sB,Za,Zb,Value.cells,one,reduceCtorEq,Zm,layC,ld29,bd57,zo0,ia64,t24,t9,t19,t22,lda,ldb,g1,e2,isAlloc,isRead,dalloc])|(refine EvC.condT ?_ ?_;simp (config := { maxSteps := 2000000 }) (disch:=first|omega|rfl) only[sB,Za];refine z01 ?_))
   have hro3:RepO K2 57 4 H3.next ((L'++(A.drop j).reverse).map four) v2:=by
    rw[hdr,List.reverse_cons,←ZI,ZE];exact hro2
   have hkq:∀(q:Nat) (r:List Value),K.get q=some (.row r 29)→K2.get q=some (.row r 29):=fun q r h=>by
    have h1:=hk1.get wK h;rw[hkg q (wK1 _ _ h1) (fun cs hc=>by rw[h1] at hc;injection hc with hc;injection hc with _ hc;exact absurd hc (by decide))];exact h1
   exact⟨j,by omega,_,K2,j,v2,rfl,rfl,by omega,(by simp only[sG,reduceCtorEq,t0]),(by simp only[sG,Za]),(by simp only[sG,Za,t10]),(by simp only[sG,Za,t19]),(by simp only[sG,Za,t22]),(by simp only[sG,Za]),hro3,hkq _ _ gqa,hkq _ _ gqb,by omega,hkA H hxK1 hn3⟩
 ·rintro st ⟨tm,K,v,rfl,t0,t9,t10,hro,hnK,hxK⟩;try simp only[z00]
  repeat' (first|(refine EvC.reg ?_;simp (config := { maxSteps := 2000000 }) (disch:=first|omega|rfl) only[sB,Za,t10,en1]))
  exact⟨_,by rw[hsum2];omega,_,K,n+1,v,L'++A.reverse,P'++(la.zip lb).reverse,rfl,(by simp only[sG,reduceCtorEq,t0]),(by simp only[sG,Za,t9]),(by simp only[sG,Za]),hro,(hrc'.app hcells.rev).1,(hrc'.app hcells.rev).2,hord2,by rw[hsum2];omega,by omega,rfl,hnK,hxK⟩
end Go.Proofs.hq
end

section
namespace Go.Hb
open Go Go.RowKit
def Bes (H0 H:Heap) (s:Nat):Prop:=∀n D,H0.get n=some D→H.get n=some D∧¬Mut H s n
theorem Bes.load {H0 H:Heap}{s:Nat}(h:Bes H0 H s) {a:Addr}{n:Nat}{l:List Value}(hl:H0.load a n=some l):H.load a n=some l:=by
 unfold Heap.load at hl ⊢;split at hl
 ·rename_i cs hs hc;have:H.cells a.block=some cs:=by
   unfold Heap.cells at hc ⊢;cases hg:H0.get a.block with
   |none=>rw[hg] at hc;cases hc
   |some D=>rw[(h _ D hg).1];rw[hg] at hc;exact hc
  rw[hs,this];exact hl
 ·cases hl
theorem Bes.rep {H0 H:Heap}{s:Nat}(h:Bes H0 H s) {t:Tm}{cs:List Value}(r:RepT H0 t cs):RepT H t cs:=by
 induction r with
 |mk k s u b v l a c cells h1 h2 h3 h4 h5 h6 h7 h8 h9 h10 h11 ih =>
  exact .mk k s u b v l a c cells h1 h2 h3 h4 h5 h6 h7 h8 h9 (fun i ad hi ha=>⟨(h10 i ad hi ha).1,h.load (h10 i ad hi ha).2⟩) ih
theorem zge (H:Heap) (S:Nat→Prop):∀k:Nat,∃G:Heap,∀n,∀D,(G.get n=some D↔n < k∧S n∧H.get n=some D)
 |0=>⟨⟨0,.nil⟩,fun n D=>⟨fun h=>by simp [Heap.get,Tr.get] at h,fun h=>absurd h.1 (Nat.not_lt_zero _)⟩⟩
 |k+1=>by
  obtain⟨G,hG⟩:=zge H S k;by_cases hs:S k
  ·refine⟨G.put k (H.get k),fun n D=>?_⟩;rw[get_put];by_cases hn:n=k
   ·subst hn;rw[if_pos rfl];exact⟨fun h=>⟨Zf _,hs,h⟩,fun h=>h.2.2⟩
   ·rw[if_neg hn,hG];exact⟨fun h=>⟨by omega,h.2⟩,fun h=>⟨by omega,h.2⟩⟩
  ·refine⟨G,fun n D=>?_⟩;rw[hG];constructor
   ·intro h;exact⟨by omega,h.2⟩
   ·intro h;refine⟨?_,h.2⟩;rcases Nat.lt_succ_iff_lt_or_eq.1 h.1 with q|q
    ·exact q
    ·subst q;exact absurd h.2.1 hs
end Go.Hb
namespace Go.Proofs.hq
open Go Go.RowKit Go.Hb
variable {ok:Ok}
set_option maxRecDepth 10000
attribute [local irreducible] LX LG EL STG SOP SGO SGD SAL SRD SEF SEG SLK SCK ES
theorem _root_.Go.Hb.Bes.sx {H0 H H':Heap}{s:Nat}(h:Bes H0 H s) (hw:H.wf) (hx:SX s H H'):Bes H0 H' s:=fun n D hD=>by
 obtain⟨h1,h2⟩:=h n D hD;exact⟨hx.own hw h2 h1,hx.nm (hw _ _ h1) h2⟩
theorem _root_.Go.Hb.Bes.hx {H0 H H':Heap}{s:Nat}(h:Bes H0 H s) (hw:H.wf) (hs:s < H.next) (hx:HX H H'):Bes H0 H' s:=h.sx hw (hx.sx hs)
theorem St.bes {H0 H:Heap}{B s:Nat}{σ:SS}(hs:St H B s σ) (hw0:H0.wf) (hB:H0.next≤B) (hx:HX H0 H):Bes H0 H s:=fun n D hD=>⟨hx.get hw0 hD,fun q=>by have:=hs.mlo q;have:=hw0 _ _ hD;omega⟩
theorem zlh {H:Heap}{s:Nat}{S:Nat→Prop}{t:Tm}{cs:List Value}(hS:∀n,S n→¬Mut H s n) (r:RepS H S t cs):∃H0,RepT H0 t cs∧Bes H0 H s:=by
 obtain⟨G,hG⟩:=zge H S H.next;refine⟨G,r G fun n hn hl=>?_,fun n D hD=>?_⟩
 ·cases e:H.get n with
  |some D=>exact(hG n D).2 ⟨hl,hn,e⟩
  |none =>
   cases e2:G.get n with
   |none=>rfl
   |some D=>have:=((hG n D).1 e2).2.2;rw[e] at this;cases this
 ·obtain⟨h1,h2,h3⟩:=(hG n D).1 hD;exact⟨h3,hS n h2⟩
set_option maxHeartbeats 8000000 in
theorem zq4 {H0:Heap}{B s:Nat}:∀(m:Nat) {t:Tm}{cs:List Value}{H:Heap}{σ:SS},SizeOf.sizeOf t < m→RepT H0 t cs→Fine t→Bes H0 H s→H.wf→St H B s σ→(∀v∈occ t,okV σ v)→σ.own.length=σ.cells.length →
  σ.cells.length+2*nd t≤most→σ.consts.length+nd t≤most→σ.funs.length+nd t≤most →
  EvF Tryd.prog okT 36 [.pointer (some ⟨s,0,none⟩),.agg ⟨cs⟩] H fun r H'=>r=.agg ⟨two (layS σ t).2⟩∧St H' B s (layS σ t).1∧SX s H H':=by
 intro m
 induction m with
 |zero=>intro t cs H σ h;omega
 |succ m ih =>
 intro t cs H σ hsz r hfine hx0 hw hs hocc hol hmc hmk hmf;have hs0:=hs.lt hw;have hnd:=z1p t;obtain⟨a,c,cells,rfl,-,-,-,-,-,rl⟩:=r.six;have hmx:=rl.max;refine EvF.enter rfl Tryd.func36 (by decide) rfl ?_;(repeat refine EvC.seq ?_);refine EvC.reg ?_;simp (config := { maxSteps := 2000000 }) (disch:=first|omega|rfl) only[sB,initTm,dBox,dAlloc,Value.cells,one,reduceCtorEq,zr29];obtain⟨H1,e1,hx1,g1,g1',n1,w1⟩:=new2 hw (.row (six t a c) 25) (.row (two (0,0)) 29);simp only[e1];have q1:=row6 g1;have hs1:=hs.keep hw hx1;have nm1:=hs.fresh hw hx1 (Zd _);have nm1':=hs.fresh hw hx1 (Nat.le_succ _);by_cases k1:t.kind=1
 ·have hv:=hocc t.var (by rw[z2f,if_pos k1];simp);obtain⟨n,en⟩:=Zo hv.1;have hn:n < σ.vars.length:=by have:=hv.2.1;omega
  obtain⟨H2,e2,hx2,w2⟩:=z8g w1 10;have hs2:=hs1.keep w1 hx2;obtain⟨a0,c0,a1,c1,a2,c2,a3,c3,a4,c4,a5,c5,r6,r7,a8,c8,a9,c9,h,l0,l1,l2,l3,l4,l5,l6,l7,l8,l9,b0,b1,b2,b3,b4,b5,b8,b9⟩:=hs2.open;obtain⟨b,rfl,o,ld⟩:=h.el1 (i:=2) (k:=n) (x:=int1 (gi σ.vars n)) rfl rfl (by rw[Zl,zk5 hn];rfl);have g2:=row6 (hx2.get w1 g1);have g2':=hx2.get w1 g1';rw[en] at g2
  repeat' (first|refine EvC.seq ?_|refine EvC.block ?_|(refine EvC.ret ?_;try simp only[z05,z04])|(refine EvC.reg ?_;simp (config := { maxSteps := 2000000 }) (disch:=first|omega|rfl) only[sB,Za,reduceCtorEq,z1y,ld3,q1,z13 k1])|(refine EvC.drw (id:=4) [([(0,0),(1,0),(2,0),(3,0),(4,0),(5,0),(6,0),(7,0),(8,0)],some 9),([],none)] ?_ ?_;kernel_rfl;simp (config := { maxSteps := 2000000 }) (disch:=first|omega|rfl) only[sD,sB,Za,Zb,Value.cells,one,reduceCtorEq,Zm,layC,ld3,z7p,ld42,zbg,ia42,bd29,st29,z06,z0a,e2,l2,ld,g2,g2',isAlloc,isRead])|(refine EvC.condT ?_ ?_;simp (config := { maxSteps := 2000000 }) (disch:=first|omega|rfl) only[sB,Za,reduceCtorEq];refine z01 ?_))
  refine z0f rfl (by simp only[sB,Za,reduceCtorEq];rfl) (by simp only[sB,Zb,cutC,ld29];rfl) ?_;rw[z6m k1,en];have hxx:=(hx1.trans hx2).pt (by omega) g2' (some (.row (two (2,gi σ.vars n)) 29));exact⟨rfl,hs.keep hw hxx,hxx.sx hs0⟩
 by_cases k5:t.kind=5
 ·have hlen:t.args.length≤64:=z3k hfine;have hll:=z6n t.args;obtain⟨a0,c0,a1,c1,a2,c2,a3,c3,a4,c4,a5,c5,r6,r7,a8,c8,a9,c9,h,l0,l1,l2,l3,l4,l5,l6,l7,l8,l9,b0,b1,b2,b3,b4,b5,b8,b9⟩:=hs1.open
  repeat' (first|refine EvC.seq ?_|refine EvC.block ?_|(refine EvC.skip ?_;try simp only[sA])|(refine EvC.reg ?_;simp (config := { maxSteps := 2000000 }) (disch:=first|omega|rfl) only[sB,Za,Zb,Value.cells,one,reduceCtorEq,Zm,layC,z1y,ld3,bd29,z1t,ld64,ln64,zj9,ld9,z1l,ld23,ln23,bd63,cl58,z06,z0a,q1,l0,z0p k1,z13 k5])|(refine EvC.condT ?_ ?_;simp (config := { maxSteps := 2000000 }) (disch:=first|omega|rfl) only[sB,Za,reduceCtorEq];refine z01 ?_)|(refine EvC.condF ?_ ?_;simp (config := { maxSteps := 2000000 }) (disch:=first|omega|rfl) only[sB,Za,reduceCtorEq];refine z01 ?_))
  refine(zhk (k:=(t.name,(t.args.length:Int))) hs1 w1 (by omega)).mono ?_;rintro r H2 ⟨rfl,hs2,hx2⟩;have hF:=z2h σ (t.name,(t.args.length:Int))
  repeat' (first|(refine z0n ?_;simp (config := { maxSteps := 2000000 }) (disch:=first|omega|rfl) only[sB,Za,Zb,one,reduceCtorEq,cl34]))
  refine(zdm (c:=(5,((functorS σ (t.name,(t.args.length:Int))).2:Int))) (o:=-1) hs2 hx2.wf (by rw[hF.2.2.1];omega) (by rw[hF.2.2.2.1];omega)).mono ?_;rintro r H3 ⟨hs3,hx3⟩;have hx13:=hx2.trans hx3;have g3:=hx13.own w1 nm1 g1;have g3':=hx13.own w1 nm1' g1';have nm3:=hx13.nm (w1 _ _ g1) nm1;have nm3':=hx13.nm (w1 _ _ g1') nm1';have q3:=row6 g3
  repeat' (first|refine EvC.seq ?_|refine EvC.block ?_|(refine EvC.reg ?_;simp (config := { maxSteps := 2000000 }) (disch:=first|omega|rfl) only[sB,Za,reduceCtorEq,z1l,ld23,ln23,q3]))
  have hH0:layH σ (t.name,(t.args.length:Int)) 0={ (functorS σ (t.name,(t.args.length:Int))).1 with cells:=(functorS σ (t.name,(t.args.length:Int))).1.cells++[(5,((functorS σ (t.name,(t.args.length:Int))).2:Int))],own:=(functorS σ (t.name,(t.args.length:Int))).1.own++[-1] }:=by
   rw[layH,hF.2.2.1,hF.2.2.2.1];simp
  have hHs:∀i,layH σ (t.name,(t.args.length:Int)) (i+1)={ layH σ (t.name,(t.args.length:Int)) i with cells:=(layH σ (t.name,(t.args.length:Int)) i).cells++[(0,0)],own:=(layH σ (t.name,(t.args.length:Int)) i).own++[-2] }:=fun i=>by
   simp [layH,List.replicate_succ']
  have hHg:=zbz σ (t.name,(t.args.length:Int));rw[←hH0] at hs3;refine EvC.loop (fun k st=>∃tm H' i,st=⟨tm,[],H'⟩∧k=t.args.length - i∧i≤t.args.length∧tm.get 0=some (.pointer (some ⟨s,0,none⟩))∧tm.get 3=some (.pointer (some ⟨H.next,0,none⟩))∧tm.get 4=some (.pointer (some ⟨H.next+1,0,none⟩))∧tm.get 5=some (.int .i64 σ.cells.length) ∧
    tm.get 46=some (.int .i64 t.args.length)∧tm.get 47=some (.int .i64 (i:Nat))∧St H' B s (layH σ (t.name,(t.args.length:Int)) i)∧SX s H1 H') ?_ t.args.length _ ?_
  ·rintro k st ⟨tm,H',i,rfl,rfl,hi,t0,t3,t4,t5,t46,t47,hs',hx'⟩;by_cases hlt:i < t.args.length
   ·repeat' (first|refine EvC.seq ?_|refine EvC.block ?_|(refine EvC.skip ?_;try simp only[z00])|(refine EvC.reg ?_;simp (config := { maxSteps := 2000000 }) (disch:=first|omega|rfl) only[sB,Za,Value.cells,reduceCtorEq,layC,bd29,cl34,t0,t46,t47,decl hlt])|(refine EvC.condT ?_ ?_;simp (config := { maxSteps := 2000000 }) (disch:=first|omega|rfl) only[sB];refine z01 ?_))
    have hg:=hHg i;refine(zdm (c:=(0,0)) (o:=-2) hs' hx'.wf (by rw[hg.2.2.2.2.1];omega) (by rw[hg.2.2.2.2.2.1];omega)).mono ?_;rintro r H4 ⟨hs4,hx4⟩;rw[←hHs] at hs4
    repeat' (first|(refine EvC.reg ?_;simp (config := { maxSteps := 2000000 }) (disch:=first|omega|rfl) only[sB,Za,t47,z0b]))
    exact⟨_,by omega,_,_,i+1,rfl,rfl,by omega,(by simp only[sG,reduceCtorEq,t0]),(by simp only[sG,Za,t3]),(by simp only[sG,Za,t4]),(by simp only[sG,Za,t5]),(by simp only[sG,Za,t46]),(by simp only[sB,Za];rfl),hs4,hx'.trans hx4⟩
   ·obtain rfl:i=t.args.length:=by omega
    have g4:=hx'.own w1 nm1 g1;have q4:=row6 g4
    repeat' (first|refine EvC.seq ?_|refine EvC.block ?_|(refine EvC.exit ?_;try simp only[sB])|(refine EvC.reg ?_;simp (config := { maxSteps := 2000000 }) (disch:=first|omega|rfl) only[sB,Za,z1l,ld23,ln23,t3,t46,t47,q4,decn hlt])|(refine EvC.condF ?_ ?_;simp (config := { maxSteps := 2000000 }) (disch:=first|omega|rfl) only[sB];refine z01 ?_))
    have hAg:=fun j=>zby (σ:=layH σ (t.name,(t.args.length:Int)) t.args.length) (at':=σ.cells.length) (l:=t.args) (fun u _ σ=>z95 _ u (Zf _) σ) j
    have hg:=hHg t.args.length;refine EvC.loop (fun k st=>∃tm H' i,st=⟨tm,[],H'⟩∧k=t.args.length - i∧i≤t.args.length∧tm.get 0=some (.pointer (some ⟨s,0,none⟩))∧tm.get 4=some (.pointer (some ⟨H.next+1,0,none⟩))∧tm.get 5=some (.int .i64 σ.cells.length) ∧
      tm.get 54=some (.slice a t.args.length c)∧tm.get 55=some (.int .i64 t.args.length)∧tm.get 56=some (.int .i64 (i:Nat))∧St H' B s (layA (layH σ (t.name,(t.args.length:Int)) t.args.length) σ.cells.length 0 (t.args.take i))∧SX s H1 H') ?_ t.args.length _ ?_
    ·rintro k st ⟨tm,H',i,rfl,rfl,hi,t0,t4,t5,t54,t55,t56,hs',hx'⟩;have hx0':Bes H0 H' s:=(hx0.hx hw hs0 hx1).sx w1 hx';have hA:=hAg i hi;by_cases hlt:i < t.args.length
     ·obtain⟨b,o,a1,c1,rfl,hld,hr1⟩:=rl.el hlt;have hld1:=hx0'.load hld;have hnl:nd.ndL (t.args.take i)+nd t.args[i]+(t.args.length - (i+1))≤nd.ndL t.args:=by
       have app:∀(a b:List Tm),nd.ndL (a++b)=nd.ndL a+nd.ndL b:=fun a b=>by
        induction a with
        |nil=>rw[nd.ndL];simp
        |cons t a ih=>rw[List.cons_append,nd.ndL,nd.ndL,ih];omega
       have e1:t.args=t.args.take i++t.args[i] :: t.args.drop (i+1):=by
        rw[←ZB hlt,List.take_append_drop]
       have e2:nd.ndL t.args=nd.ndL (t.args.take i)+(nd t.args[i]+nd.ndL (t.args.drop (i+1))):=by
        conv=>lhs;rw[e1]
        rw[app,nd.ndL]
       have e3:=z6n (t.args.drop (i+1));rw[List.length_drop] at e3;omega
      have hAl:=hA.cells;have hAo:=hA.own;have hAk:=hA.consts;have hAf:=hA.funs;rw[hg.2.2.2.2.1] at hAl hAo;rw[hg.2.2.2.2.2.1] at hAo;rw[hg.2.2.2.2.2.2.1] at hAk;have hgf:=hg.2.2.2.2.2.2.2;have hol2:(layA (layH σ (t.name,(t.args.length:Int)) t.args.length) σ.cells.length 0 (t.args.take i)).own.length=(layA (layH σ (t.name,(t.args.length:Int)) t.args.length) σ.cells.length 0 (t.args.take i)).cells.length:=by
       clear hg hA hAl hAk hAf;omega
      obtain⟨H4,e4,hx4,g4,hn4,hw4⟩:=z0k hx'.wf (.row zero6 25) (.row (six t.args[i] a1 c1) 25);have q4:=row6 g4
      repeat' (first|refine EvC.seq ?_|refine EvC.block ?_|(refine EvC.skip ?_;try simp only[z00])|(refine EvC.reg ?_;simp (config := { maxSteps := 2000000 }) (disch:=first|omega|rfl) only[sB,dAlloc,Za,Zb,one,reduceCtorEq,zr29,ld25,ia23,zr25,st25,cl36,t0,t54,t55,t56,decl hlt,hld1,e4,q4])|(refine EvC.condT ?_ ?_;simp (config := { maxSteps := 2000000 }) (disch:=first|omega|rfl) only[sB];refine z01 ?_))
      have hsz':=z1w (Zc hlt);generalize hτ:layA (layH σ (t.name,(t.args.length:Int)) t.args.length) σ.cells.length 0 (t.args.take i)=τ at *;refine(ih (σ:=τ) (by omega) hr1 (hfine.args _ (ZF hlt)) (hx0'.hx hx'.wf (hs'.lt hx'.wf) hx4) hx4.wf (hs'.keep hx'.wf hx4) (fun v hv=>?_) hol2 (by omega) (by omega) (by omega)).mono ?_
      ·have:=hocc v (za4 (ZF hlt) hv);have ev:=hA.vars.trans hg.1;unfold okV at this ⊢;rw[ev];exact this
      rintro r H5 ⟨rfl,hs5,hx5⟩;obtain⟨H6,e6,hx6,g6,hn6,hw6⟩:=z0k hx5.wf (.row [.int .i64 0,.int .i64 0] 29) (.row (two (layS τ t.args[i]).2) 29);have hs6:=hs5.keep hx5.wf hx6;obtain⟨H7,e7,hx7,w7⟩:=z8g hw6 11;have hs7:=hs6.keep hw6 hx7;have q7:=z0s (hx7.get hw6 g6);obtain⟨a0,c0,a1,c1,a2,c2,a3,c3,a4,c4,a5,c5,r6,r7,a8,c8,a9,c9,h,l0,l1,l2,l3,l4,l5,l6,l7,l8,l9,b0,b1,b2,b3,b4,b5,b8,b9⟩:=hs7.open;have hlS:=(z95 _ t.args[i] (Zf _) τ).cells;have hkl:σ.cells.length+1+i < (layS τ t.args[i]).1.cells.length:=by omega
      obtain⟨b3,cs,rfl,o3,gb,hle⟩:=h.row (i:=0) (k:=σ.cells.length+1+i) rfl rfl (by simpa using hkl);obtain⟨H8,e8,s8,x8⟩:=h.write (i:=0) (k:=σ.cells.length+1+i) (y:=two (layS τ t.args[i]).2) w7 rfl rfl (by simpa using hkl) gb rfl rfl;have hs8:St H8 B s { (layS τ t.args[i]).1 with cells:=(layS τ t.args[i]).1.cells.set (σ.cells.length+1+i) (layS τ t.args[i]).2 }:=⟨_,by simpa [flds,List.map_set] using s8⟩
      clear s8;have hle':(σ.cells.length+1+i)*2+2≤cs.length:=by rw[Zn] at hle;omega
      have hmm:most=1048576:=rfl;have ew1:IntKind.i64.wrap ((σ.cells.length:Int)+1)=((σ.cells.length+1:Nat):Int):=by rw[z0b]<;>omega
      have ew2:IntKind.i64.wrap (((σ.cells.length+1:Nat):Int)+(i:Int))=((σ.cells.length+1+i:Nat):Int):=by rw[z0b]<;>omega
      have ew3:IntKind.i64.wrap ((i:Int)+1)=((i+1:Nat):Int):=by rw[z0b]<;>omega
      repeat' (first|(refine EvC.reg ?_;simp (config := { maxSteps := 2000000 }) (disch:=first|omega|rfl) only[sB,Za,t56,ew3])|(refine EvC.drw (id:=16) [([(0,0),(1,0),(2,0),(3,0),(4,0),(5,0),(6,0),(7,0),(8,0),(9,0)],some 10),([],none)] ?_ ?_;kernel_rfl;simp (config := { maxSteps := 2000000 }) (disch:=first|omega|rfl) only[sD,sB,Za,Zb,one,reduceCtorEq,st29,z1t,ld64,ld29,ia64,z06,z0a,t0,t5,e7,q7,l0,ew1,ew2,gb,hle',e8,isAlloc,isRead])|(refine z0n ?_;simp (config := { maxSteps := 2000000 }) (disch:=first|omega|rfl) only[sB,Zb,one,st29,e6]))
      rw[←hτ] at hs8;refine⟨_,by omega,_,_,i+1,rfl,rfl,by omega,(by simp only[sG,reduceCtorEq,t0]),(by simp only[sG,Za,t4]),(by simp only[sG,Za,t5]),(by simp only[sG,Za,t54]),(by simp only[sG,Za,t55]),(by simp only[sG,Za]),?_,hx'.trans (((hx4.sx (hs'.lt hx'.wf)).trans hx5).trans (((hx6.trans hx7).sx (hs5.lt hx5.wf)).trans x8))⟩;rw[z5l hlt];exact hs8
     ·obtain rfl:i=t.args.length:=by omega
      rw[List.take_length] at hs';have g4:=hx'.own w1 nm1' g1'
      repeat' (first|refine EvC.seq ?_|(refine EvC.exit ?_;try simp only[sB])|(refine EvC.ret ?_)|(refine EvC.reg ?_;simp (config := { maxSteps := 2000000 }) (disch:=first|omega|rfl) only[sB,Za,Zb,Value.cells,one,Zm,layC,bd29,st29,t4,t5,t55,t56,g4,decn hlt])|(refine EvC.condF ?_ ?_;simp (config := { maxSteps := 2000000 }) (disch:=first|omega|rfl) only[sB];refine z01 ?_))
      refine z0f rfl (by simp only[sB,Za,t4];rfl) (by simp only[sB,Zb,cutC,ld29];rfl) ?_;rw[z5k k5];have l2':=hx'.wf _ _ g4;have nm2:=hx'.nm (w1 _ _ g1') nm1';exact⟨rfl,(hs'.box hx'.wf l2' nm2 _).1,((hx1.sx hs0).trans hx').box (Nat.le_succ _) l2' nm2 _⟩
    ·refine⟨_,_,0,rfl,rfl,by omega,(by simp only[sG,reduceCtorEq,t0]),(by simp only[sG,Za,t4]),(by simp only[sG,Za,t5]),(by simp only[sG,Za]),(by simp only[sG,Za]),(by simp only[sB,Za];rfl),?_,hx'⟩;rw[List.take_zero,layA];exact hs'
  ·exact⟨_,_,0,rfl,rfl,by omega,(by simp only[sG,reduceCtorEq]),(by simp only[sG,Za,reduceCtorEq]),(by simp only[sG,Za,reduceCtorEq]),(by simp only[sG,Za,reduceCtorEq]),(by simp only[sG,Za,reduceCtorEq]),(by simp only[sB,Za,reduceCtorEq];rfl),hs3,hx13⟩
 ·have hk:=z0j hfine.node;have hargs:t.args=[]:=(z16 hk.2.2.1).2.2.2.2 k5
  repeat' (first|refine EvC.seq ?_|refine EvC.block ?_|(refine EvC.reg ?_;simp (config := { maxSteps := 2000000 }) (disch:=first|omega|rfl) only[sB,Za,Zb,Value.cells,one,reduceCtorEq,Zm,layC,z1y,ld3,bd29,ld25,cl57,q1,z0p k1,z0p k5])|(refine EvC.condF ?_ ?_;simp (config := { maxSteps := 2000000 }) (disch:=first|omega|rfl) only[sB,Za,reduceCtorEq];refine z01 ?_))
  refine(zka hs1 w1 hargs (by omega)).mono ?_;rintro r H2 ⟨rfl,hs2,hx2⟩;have g2':=hx2.own w1 nm1' g1'
  repeat' (first|(refine EvC.ret ?_;try simp only[z05,z04])|(refine z0n ?_;simp (config := { maxSteps := 2000000 }) (disch:=first|omega|rfl) only[sB,Za,Zb,one,reduceCtorEq,st29,g2']))
  refine z0f rfl (by simp only[sB,Za,reduceCtorEq];rfl) (by simp only[sB,Zb,cutC,ld29];rfl) ?_;rw[z5j k1 k5];have l2':=hx2.wf _ _ g2';have nm2:=hx2.nm (w1 _ _ g1') nm1';exact⟨rfl,(hs2.box hx2.wf l2' nm2 _).1,((hx1.sx hs0).trans hx2).box (Nat.le_succ _) l2' nm2 _⟩
set_option maxHeartbeats 8000000 in
theorem zad {H0:Heap}{B s:Nat}{t:Tm}{cs:List Value}{H:Heap}{σ:SS}(r:RepT H0 t cs) (hx0:Bes H0 H s) (hw:H.wf) (hs:St H B s σ) (hol:σ.own.length=σ.cells.length)
  (hb:checkS t=0→σ.cells.length+2*nd t≤most∧σ.consts.length+nd t≤most∧σ.funs.length+nd t≤most) :
  EvF Tryd.prog okT 16 [.pointer (some ⟨s,0,none⟩),.agg ⟨cs⟩] H fun r H'=>r=.tuple ⟨[.agg ⟨two (layV σ t).2.1⟩,.int .i64 (layV σ t).2.2]⟩∧St H' B s (layV σ t).1∧SX s H H':=by
 have hs0:=hs.lt hw;obtain⟨a,c,cells,rfl,-,-,-,-,-,rl⟩:=r.six;have hmx:=rl.max;refine EvF.enter rfl Tryd.func16 (by decide) rfl ?_;(repeat refine EvC.seq ?_);refine EvC.reg ?_;simp (config := { maxSteps := 2000000 }) (disch:=first|omega|rfl) only[sB,initTm,dBox,dAlloc,Value.cells,one,reduceCtorEq,zr29];obtain⟨H1,e1,hx1,g1,g1',n1,w1⟩:=new2 hw (.row (six t a c) 25) (.row (two (0,0)) 29);simp only[e1];have q1:=row6 g1;have hs1:=hs.keep hw hx1;have nm1:=hs.fresh hw hx1 (Zd _);have nm1':=hs.fresh hw hx1 (Nat.le_succ _);obtain⟨H2,e2,hx2,g2,n2,w2⟩:=new1 w1 (.row (six t a c) 25)
 repeat' (first|refine EvC.seq ?_|(refine EvC.skip ?_;try simp only[z00])|(refine EvC.reg ?_;simp (config := { maxSteps := 2000000 }) (disch:=first|omega|rfl) only[sB,Za,Zb,Value.cells,one,reduceCtorEq,layC,ld25,z5b,cl12,bEqP,q1,e2])|(refine EvC.condF ?_ ?_;simp (config := { maxSteps := 2000000 }) (disch:=first|omega|rfl) only[sB,Za,reduceCtorEq];refine z01 ?_))
 refine(z2i ((hx0.hx hw hs0 (hx1.trans hx2)).rep r) g2 w2).mono ?_;rintro v H3 ⟨u,rfl,hI,hx3⟩;have hx13:=hx2.trans hx3;have hxx:=hx1.trans hx13;have g3:=hx13.get w1 g1;have g3':=hx13.get w1 g1';have q3:=row6 g3;have hs3:=hs.keep hw hxx;by_cases h0:checkS t=0
 ·rw[if_pos h0] at hI;obtain⟨va,vc,rfl,hvl,hvm⟩:=hI.slice;have hfine:=(z0h.1 h0).2;have w3:=hxx.wf
  repeat' (first|refine EvC.seq ?_|refine EvC.block ?_|(refine EvC.skip ?_;try simp only[z00])|(refine EvC.reg ?_;simp (config := { maxSteps := 2000000 }) (disch:=first|omega|rfl) only[sB,Za,reduceCtorEq,ln42,z22 h0])|(refine z0n ?_;simp (config := { maxSteps := 2000000 }) (disch:=first|omega|rfl) only[sB,Za,reduceCtorEq])|(refine EvC.condF ?_ ?_;simp (config := { maxSteps := 2000000 }) (disch:=first|omega|rfl) only[sB,Za,reduceCtorEq];refine z01 ?_))
  refine EvC.loop (fun k st=>∃tm i,st=⟨tm,[],H3⟩∧k=(uniq (occ t)).length - i∧i≤(uniq (occ t)).length∧tm.get 0=some (.pointer (some ⟨s,0,none⟩))∧tm.get 3=some (.pointer (some ⟨H.next,0,none⟩))∧tm.get 4=some (.pointer (some ⟨H.next+1,0,none⟩)) ∧
    tm.get 25=some (.slice va (uniq (occ t)).length vc)∧tm.get 26=some (.int .i64 (uniq (occ t)).length)∧tm.get 27=some (.int .i64 (i:Nat))∧∀v∈(uniq (occ t)).take i,okV σ v) ?_ (uniq (occ t)).length _ ?_
  ·rintro k st ⟨tm,i,rfl,rfl,hi,t0,t3,t4,t25,t26,t27,hok⟩;by_cases hlt:i < (uniq (occ t)).length
   ·obtain⟨vb,rfl,-,hld,-⟩:=hI.at hlt
    repeat' (first|refine EvC.seq ?_|refine EvC.block ?_|(refine EvC.skip ?_;try simp only[z00])|(refine EvC.reg ?_;simp (config := { maxSteps := 2000000 }) (disch:=first|omega|rfl) only[sB,Za,reduceCtorEq,ia42,ld3,cl35,t0,t25,t26,t27,decl hlt,hld])|(refine EvC.condT ?_ ?_;simp (config := { maxSteps := 2000000 }) (disch:=first|omega|rfl) only[sB];refine z01 ?_))
    refine(zry hs3).mono ?_;rintro r H' ⟨rfl,rfl⟩;by_cases hv:okV σ (uniq (occ t))[i]
    ·simp only[if_pos hv];have hul:=z6l (occ t);have hof:=z85 h0;have ew:IntKind.i64.wrap ((i:Int)+1)=((i+1:Nat):Int):=by rw[z0b]<;>omega
     repeat' (first|refine EvC.seq ?_|(refine EvC.skip ?_;try simp only[sA])|(refine EvC.reg ?_;simp (config := { maxSteps := 2000000 }) (disch:=first|omega|rfl) only[sB,Za,t27,z22 rfl,ew])|(refine z0n ?_;simp (config := { maxSteps := 2000000 }) (disch:=first|omega|rfl) only[sB,Za])|(refine EvC.condF ?_ ?_;simp (config := { maxSteps := 2000000 }) (disch:=first|omega|rfl) only[sB,Za];refine z01 ?_))
     refine⟨_,by omega,_,i+1,rfl,rfl,by omega,(by simp only[sG,reduceCtorEq,t0]),(by simp only[sG,Za,t3]),(by simp only[sG,Za,t4]),(by simp only[sG,Za,t25]),(by simp only[sG,Za,t26]),(by simp only[sG,Za]),fun v hv'=>?_⟩;rw[←ZK hlt] at hv';rcases List.mem_append.1 hv' with h|h
     ·exact hok v h
     ·rw[List.mem_singleton] at h;rw[h];exact hv
    ·simp only[if_neg hv];have d9:((133:Int) != 0)=true:=rfl
     repeat' (first|refine EvC.seq ?_|(refine EvC.ret ?_;try simp only[z05,z04])|(refine EvC.reg ?_;simp (config := { maxSteps := 2000000 }) (disch:=first|omega|rfl) only[sB,Za,Zb,Value.cells,one,layC,bd29,st29,t4,d9,g3'])|(refine z0n ?_;simp (config := { maxSteps := 2000000 }) (disch:=first|omega|rfl) only[sB,Za])|(refine EvC.condT ?_ ?_;simp (config := { maxSteps := 2000000 }) (disch:=first|omega|rfl) only[sB,Za];refine z01 ?_))
     have el:layV σ t=(σ,(0,0),133):=by
      rw[layV,if_neg (by omega),if_neg (fun q=>hv (q _ (zfy.1 (ZF hlt))))]
     rw[el];have hput:=hxx.pt (by omega) g3' (some (.row (two (0,0)) 29));exact z0c rfl (by simp only[sB,Za,t4];rfl) (by simp only[sB,Zb,cutC,ld29]) (by simp only[sG,Za]) ⟨rfl,hs.keep hw hput,hput.sx hs0⟩
   ·obtain rfl:i=(uniq (occ t)).length:=by omega
    rw[List.take_length] at hok;have hall:∀v∈occ t,okV σ v:=fun v hv=>hok v (zfy.2 hv)
    have el:layV σ t=((layS σ t).1,(layS σ t).2,0):=by rw[layV,if_neg (by omega),if_pos hall]
    rw[el];obtain⟨b1,b2,b3⟩:=hb h0
    repeat' (first|refine EvC.seq ?_|(refine EvC.exit ?_;try simp only[sB])|(refine EvC.reg ?_;simp (config := { maxSteps := 2000000 }) (disch:=first|omega|rfl) only[sB,Za,reduceCtorEq,ld25,cl36,t0,t3,t26,t27,q3,decn hlt])|(refine EvC.condF ?_ ?_;simp (config := { maxSteps := 2000000 }) (disch:=first|omega|rfl) only[sB];refine z01 ?_))
    refine(zq4 _ (Zf _) r hfine (hx0.hx hw hs0 hxx) w3 hs3 hall hol b1 b2 b3).mono ?_;rintro r' H4 ⟨rfl,hs4,hx4⟩;have nm3':=hs.fresh hw hxx (Nat.le_succ H.next);have g4':=hx4.own w3 nm3' g3'
    repeat' (first|(refine EvC.ret ?_)|(refine z0n ?_;simp (config := { maxSteps := 2000000 }) (disch:=first|omega|rfl) only[sB,Zb,one,st29,t4,g4']))
    have l4':=hx4.wf _ _ g4';have nm4:=hx4.nm (w3 _ _ g3') nm3';exact z0c rfl (by simp only[sB,Za,t4];rfl) (by simp only[sB,Zb,cutC,ld29]) (by simp only[sG,Za]) ⟨rfl,(hs4.box hx4.wf l4' nm4 _).1,((hxx.sx hs0).trans hx4).box (Nat.le_succ _) l4' nm4 _⟩
  ·exact⟨_,0,rfl,rfl,by omega,(by simp only[sG,reduceCtorEq]),(by simp only[sG,Za,reduceCtorEq]),(by simp only[sG,Za,reduceCtorEq]),(by simp only[sG,Za,reduceCtorEq]),(by simp only[sG,Za,reduceCtorEq]),(by simp only[sB,Za,reduceCtorEq];rfl),by simp⟩
 ·have el:layV σ t=(σ,(0,0),checkS t):=by rw[layV,if_pos h0]
  rw[el];have hput:=hxx.pt (by omega) g3' (some (.row (two (0,0)) 29))
  repeat' (first|refine EvC.seq ?_|(refine EvC.ret ?_;try simp only[z05,z04])|(refine EvC.reg ?_;simp (config := { maxSteps := 2000000 }) (disch:=first|omega|rfl) only[sB,Za,Zb,Value.cells,one,reduceCtorEq,layC,bd29,st29,z3r h0,g3'])|(refine z0n ?_;simp (config := { maxSteps := 2000000 }) (disch:=first|omega|rfl) only[sB,Za,reduceCtorEq])|(refine EvC.condT ?_ ?_;simp (config := { maxSteps := 2000000 }) (disch:=first|omega|rfl) only[sB,Za,reduceCtorEq];refine z01 ?_))
  exact z0c rfl (by simp only[sB,Za,reduceCtorEq];rfl) (by simp only[sB,Zb,cutC,ld29]) (by simp only[sG,Za,reduceCtorEq]) ⟨rfl,hs.keep hw hput,hput.sx hs0⟩
end Go.Proofs.hq
end

section
namespace Go.Proofs.hq
open Go Go.RowKit Go.Hb
variable {ok:Ok}
set_option maxRecDepth 10000
attribute [local irreducible] LX LG EL STG SOP SGO SGD SAL SRD SEF SEG SLK SCK ES
theorem RC.grow {σ τ:SS}(g:Grow σ τ) (ho:σ.own.length=σ.cells.length) {c:Int × Int}{t:Tm}(h:RC σ c t):RC τ c t:=⟨h.rd.grow g ho,z6o g ho h.may,h.fine,h.bd⟩
theorem zcn {t:Tm}(h:checkS t=0):nd t≤4000:=by
 have hz:=z0h.1 h;have:=hz.1;have:=zke _ t (Zf _) 0 this;omega
theorem zgf:∀(l:List Tm),(∀t∈l,∀n,n+nd t≤4000→cnt t n=n+nd t)→∀n,n+nd.ndL l≤4000→cntL l n=n+nd.ndL l
 |[],_,n,_=>by rw[cntL,nd.ndL];rfl
 |t :: l,h,n,hn=>by
  rw[nd.ndL] at hn ⊢;rw[cntL,if_neg (by omega),h t (by simp) n (by omega),zgf l (fun u hu=>h u (Zj _ hu)) _ (by omega)];omega
theorem zli:∀(m:Nat) (t:Tm),SizeOf.sizeOf t < m→∀n,n+nd t≤4000→cnt t n=n+nd t
 |0,_,h,_,_=>by omega
 |m+1,t,h,n,hn=>by
  have h1:=z1p t;rw[z29,h1,zgf t.args (fun u hu=>zli m u (by have:=z0e hu;omega)) _ (by omega)];omega
theorem zgg {t:Tm}(hf:Fine t) (hn:nd t≤4000):checkS t=0:=z0h.2 ⟨by rw[zli _ t (Zf _) 0 (by omega)];omega,hf⟩
structure PS (σ:SS) (w k:Nat):Prop where
 wf:WF noU σ
 unb:Unb σ
 con:∀u∈σ.consts,AtF u
 fv:σ.vars.length=6+k
 fc:σ.cells.length≤6+2*w+k
 fk:σ.consts.length≤w
 ff:σ.funs.length≤w
theorem PS.start:PS (mkN 6) 0 0:=by
 have h:=z4u 6;exact⟨zcc 6,zl2 6,fun u hu=>(by rw[h.2.2.2.2.1] at hu;cases hu),h.1,by rw[h.2.1];omega,by rw[h.2.2.2.2.1];simp,by rw[h.2.2.2.2.2.1];simp⟩
theorem zn2 {σ:SS}(h:Unb σ) (hw:WF noU σ):Unb (makeS σ):=fun v k hv hk hc=>by
 have e1:(makeS σ).vars=σ.vars++[(σ.cells.length:Int)]:=rfl;have e2:(makeS σ).cells=σ.cells++[(1,(σ.vars.length:Int))]:=rfl;rw[e1] at hv hk;rw[e2] at hc ⊢;simp only[Zs,ZJ,List.length_nil] at hv hc;by_cases q:v < σ.vars.length
 ·rw[z2d (List.prefix_append _ _) q] at hk;obtain⟨k',h1,h2,-⟩:=hw.var v q;have:k=k':=by omega
  subst this;rw[z4e (List.prefix_append _ _) h2];exact h v k q hk h2
 ·have ev:v=σ.vars.length:=by omega
  rw[ev,z9a] at hk;have ek:k=σ.cells.length:=by omega
  rw[ek,zca,ev]
theorem PS.make {σ:SS}{w k:Nat}(h:PS σ w k):PS (makeS σ) w (k+1):=by
 refine⟨zdt h.wf,zn2 h.unb h.wf,h.con,?_,?_,h.fk,h.ff⟩
 ·have:=h.fv;show (σ.vars++[_]).length=_;simp;omega
 ·have:=h.fc;show (σ.cells++[_]).length≤_;simp;omega
theorem PS.tok {σ:SS}{w k:Nat}(h:PS σ w k) (hw:w≤100000) (hk:k≤100000):TOk σ:=h.wf.tok (by have:=h.fc;unfold most;omega) (by have:=h.fv;unfold most;omega)
theorem PS.few {σ:SS}{w k:Nat}(h:PS σ w k) (hw:w≤100000) (hk:k≤100000) {t:Tm}(h0:checkS t=0):σ.cells.length+2*nd t≤most∧σ.consts.length+nd t≤most∧σ.funs.length+nd t≤most:=by
 have:=zcn h0;have:=h.fc;have:=h.fk;have:=h.ff;unfold most;omega
theorem ze2 {σ:SS}{t:Tm}(h:(layV σ t).2.2=0):checkS t=0∧(∀v∈occ t,okV σ v)∧layV σ t=((layS σ t).1,(layS σ t).2,0):=by
 unfold layV at h ⊢;by_cases h0:checkS t=0
 ·rw[if_neg (by omega)] at h ⊢;by_cases h1:∀v∈occ t,okV σ v
  ·rw[if_pos h1];exact⟨h0,h1,rfl⟩
  ·rw[if_neg h1] at h;exact absurd h (show ¬(133:Int)=0 by decide)
 ·rw[if_pos h0] at h;exact absurd h h0
theorem zn3 {σ:SS}{t:Tm}(h0:checkS t=0) (h1:∀v∈occ t,okV σ v):(layV σ t).2.2=0:=by
 unfold layV;rw[if_neg (by omega),if_pos h1]
theorem zn4 {σ:SS}{t:Tm}(h:(layV σ t).2.2≠0):(layV σ t).1=σ:=by
 unfold layV at h ⊢;split
 ·rfl
 ·rename_i h0;rw[if_neg h0] at h;split
  ·rename_i h1;rw[if_pos h1] at h;exact absurd rfl h
  ·rfl
theorem PS.lay {σ:SS}{w k:Nat}(h:PS σ w k) {t:Tm}(hb:BdA t) (h0:(layV σ t).2.2=0):PS (layV σ t).1 (w+nd t) k∧RC (layV σ t).1 (layV σ t).2.1 t∧Grow σ (layV σ t).1:=by
 obtain⟨a1,a2,a3,a4,a5,a6,a7,a8,a9⟩:=za8 h.wf hb;have hm:=a3 h0;obtain⟨hc,hall,e⟩:=ze2 h0;have hf:=(z0h.1 hc).2;obtain⟨hr,hcon⟩:=zof _ (Zf _) h.wf (fun a q=>q.elim) hf hb hall h.unb h.con;refine⟨⟨a1,h.unb.grow h.wf a2 a6,?_,by rw[a6];exact h.fv,by have:=h.fc;omega,by have:=h.fk;omega,by have:=h.ff;omega⟩,⟨?_,hm,hf,hb⟩,a2⟩
 ·rw[e];exact hcon
 ·rw[e] at a2 ⊢;exact hr.low (ZA _)
theorem PS.okV {σ:SS}{w k n:Nat}(h:PS σ w k) (hn:n < σ.vars.length):okV σ (n:Int):=by
 obtain⟨k',h1,-⟩:=h.wf.var n hn;exact⟨by omega,by omega,by rw[h1];omega⟩
section
variable {P:Program}{ok:Ok}{fn:Func}{tm:Tr Value}{H:Heap}{K:Value→Heap→Prop}
theorem zgh {t:TypeId}{ad:Addr}{v:Value}(hd:dLoad P t (.pointer (some ad)) H=some (.val v H)):dload P t ad H=some v:=by
 simp only[dLoad] at hd;cases hx:dload P t ad H with
 |none=>rw[hx] at hd;cases hd
 |some u=>rw[hx] at hd;simp only[Option.map_some,Option.some.injEq,Dr.val.injEq] at hd;rw[hd.1]
theorem z66 {p a b q:Tmp}{t t':TypeId}{ad bd:Addr}{u v y z:Value}(h:fn.results.toList=[.tmp p,.cell a t,.cell b t',.tmp q]) (hp:tm.get p=some u) (ha:tm.get a=some (.pointer (some ad))) (hd:dLoad P t (.pointer (some ad)) H=some (.val v H))
  (hb:tm.get b=some (.pointer (some bd))) (hd':dLoad P t' (.pointer (some bd)) H=some (.val y H)) (hq:tm.get q=some z) (hk:K (.tuple ⟨[u,v,y,z]⟩) H):Ex.leave P ok fn K .ret ⟨tm,[],H⟩:=by
 refine EvV.now (v:=.tuple ⟨[u,v,y,z]⟩) ?_ hk;simp only[dres,h,dresL,dres1,hp,ha,zgh hd,hb,zgh hd',hq,Option.getD_some]
end
set_option maxHeartbeats 8000000 in
theorem zn5 {H:Heap}{t t':Tm}{cs cs':List Value}(r0:RepT H t cs) (r0':RepT H t' cs') (hw:H.wf) :
  EvF Tryd.prog okT 5 [.agg ⟨cs⟩,.agg ⟨cs'⟩] H fun v H'=>HX H H'∧∃s x y,
   v=.tuple ⟨[.pointer (some ⟨s,0,none⟩),.agg ⟨two x⟩,.agg ⟨two y⟩,.bool false]⟩ ∨
   (v=.tuple ⟨[.pointer (some ⟨s,0,none⟩),.agg ⟨two x⟩,.agg ⟨two y⟩,.bool true]⟩∧∃B σ,H.next≤B∧St H' B s σ∧PS σ (nd t+nd t') 0∧RC σ x t∧RC σ y t'∧checkS t=0∧checkS t'=0∧(∀v∈occ t,okV σ v)):=by
 obtain⟨a,c,cells,rfl,-⟩:=r0.six;obtain⟨a',c',cells',rfl,-⟩:=r0'.six;refine EvF.enter rfl Tryd.func5 (by decide) rfl ?_;(repeat refine EvC.seq ?_);refine EvC.reg ?_;simp (config := { maxSteps := 2000000 }) (disch:=first|omega|rfl) only[sB,initTm,dBox,dAlloc,Za,Value.cells,one,reduceCtorEq,zr29];obtain⟨H1,e1,hx1,g1,g2,n1,w1⟩:=new2 hw (.row (six t a c) 25) (.row (six t' a' c') 25);simp only[e1];obtain⟨H2,e2,hx2,g3,g4,n2,w2⟩:=new2 w1 (.row (two (0,0)) 29) (.row (two (0,0)) 29);simp only[e2];have hx12:=hx1.trans hx2;have g1:=hx2.get w1 g1;have g2:=hx2.get w1 g2;have g3:H2.get (H.next+1+1)=some (.row (two (0,0)) 29):=by rw[←g3,n1]
 have g4:H2.get (H.next+1+1+1)=some (.row (two (0,0)) 29):=by rw[←g4,n1]
 clear e1 e2
 repeat' (first|refine EvC.seq ?_|(refine EvC.reg ?_;simp (config := { maxSteps := 2000000 }) (disch:=first|omega|rfl) only[sB,Za,reduceCtorEq,cl14]))
 refine(zrd w2).mono ?_;rintro v A1 ⟨s,rfl,hs1,k1⟩
 repeat' (first|refine EvC.seq ?_|refine EvC.block ?_|(refine EvC.skip ?_;try simp only[z00])|(refine EvC.reg ?_;simp (config := { maxSteps := 2000000 }) (disch:=first|omega|rfl) only[sB,Za,reduceCtorEq,bEqP])|(refine EvC.condF ?_ ?_;simp (config := { maxSteps := 2000000 }) (disch:=first|omega|rfl) only[sB,Za,reduceCtorEq];refine z01 ?_))
 refine EvC.loop (fun k st=>∃tm H' i,st=⟨tm,[],H'⟩∧k=6 - i∧i≤6∧tm.get 2=some (.pointer (some ⟨H.next,0,none⟩))∧tm.get 3=some (.pointer (some ⟨H.next+1,0,none⟩))∧tm.get 5=some (.pointer (some ⟨H.next+1+1,0,none⟩))∧tm.get 6=some (.pointer (some ⟨H.next+1+1+1,0,none⟩)) ∧
   tm.get 8=some (.pointer (some ⟨s,0,none⟩))∧tm.get 9=some (.int .i64 (i:Nat))∧St H' H2.next s (mkN i)∧HX H2 H') ?_ 6 _ ?_
 rotate_left
 ·exact⟨_,_,0,rfl,rfl,by omega,(by simp only[sG,Za,reduceCtorEq]),(by simp only[sG,Za,reduceCtorEq]),(by simp only[sG,Za,reduceCtorEq]),(by simp only[sG,Za,reduceCtorEq]),(by simp only[sG,Za,reduceCtorEq]),(by simp only[sB,Za,reduceCtorEq];rfl),hs1,k1⟩
 rintro k st ⟨tm,H',i,rfl,rfl,hi,t2,t3,t5,t6,t8,t9,hs',hx'⟩;by_cases hlt:i < 6
 ·have d1:decide ((i:Int) < 6)=true:=decide_eq_true (by omega);have hml:=z4u i;have ew:IntKind.i64.wrap ((i:Int)+1)=((i+1:Nat):Int):=by rw[z0b]<;>omega
  repeat' (first|refine EvC.seq ?_|refine EvC.block ?_|(refine EvC.skip ?_;try simp only[z00])|(refine EvC.reg ?_;simp (config := { maxSteps := 2000000 }) (disch:=first|omega|rfl) only[sB,Za,cl15,t8,t9,d1])|(refine EvC.condT ?_ ?_;simp (config := { maxSteps := 2000000 }) (disch:=first|omega|rfl) only[sB,Za];refine z01 ?_))
  refine(zk6 hs' hx'.wf (by rw[hml.2.1];unfold most;omega) (by rw[hml.2.2.1];unfold most;omega) (by rw[hml.1];unfold most;omega) (by rw[hml.2.2.2.1];unfold most;omega)).mono ?_;rintro v H3 ⟨-,hs3,hx3⟩
  repeat' (first|(refine EvC.reg ?_;simp (config := { maxSteps := 2000000 }) (disch:=first|omega|rfl) only[sB,Za,t9,ew]))
  exact⟨_,by omega,_,_,i+1,rfl,rfl,by omega,(by simp only[sG,Za,t2]),(by simp only[sG,Za,t3]),(by simp only[sG,Za,t5]),(by simp only[sG,Za,t6]),(by simp only[sG,Za,t8]),(by simp only[sG,Za]),hs3,hs'.hx hx' (Zd _) hx3⟩
 obtain rfl:i=6:=by omega
 have d6:decide (((6:Nat):Int) < 6)=false:=by decide
 have hbd:=zfz _ (Zf _) r0;have hbd':=zfz _ (Zf _) r0';have q1:=(row6 (hx'.get w2 g1)).2.2.2.2.2.2;have hHB:H.next≤H2.next:=hx12.next
 repeat' (first|refine EvC.seq ?_|(refine EvC.exit ?_;try simp only[sB])|(refine EvC.reg ?_;simp (config := { maxSteps := 2000000 }) (disch:=first|omega|rfl) only[sB,Za,ld25,cl16,t2,t8,t9,d6,q1])|(refine EvC.condF ?_ ?_;simp (config := { maxSteps := 2000000 }) (disch:=first|omega|rfl) only[sB,Za];refine z01 ?_))
 refine(zad r0 (hs'.bes hw hHB (hx12.trans hx')) hx'.wf hs' PS.start.wf.lo (PS.start.few (by omega) (by omega))).mono ?_;rintro v H3 ⟨rfl,hs3,hx3⟩;have hxH3:=hs'.hx hx' (Zd _) hx3;have w3:=hx3.wf;have hlay:=PS.start.lay hbd;have hnot:=zn4 (σ:=mkN 6) (t:=t);have hokk:=ze2 (σ:=mkN 6) (t:=t);generalize hlv:layV (mkN 6) t=lv at *;obtain⟨ρ,c0,e0'⟩:=lv;simp only at hs3 hlay hnot hokk;have hps:∃w,w≤4000∧PS ρ w 0:=by
  by_cases he:e0'=0
  ·have:=zcn (hokk he).1;exact⟨_,by omega,(hlay he).1⟩
  ·rw[hnot he];exact⟨0,by omega,PS.start⟩
 obtain⟨w,hwl,hps⟩:=hps;(try simp (config := { maxSteps := 2000000 }) (disch:=first|omega|rfl) only[sB,dAlloc,Za,Zb,one,zr29,st29]);obtain⟨H4,e4,hx4,g5,n4,w4⟩:=z0k w3 (.row [.int .i64 0,.int .i64 0] 29) (.row (two c0) 29);have hs4:=hs3.keep w3 hx4;have hxH4:=hxH3.trans hx4;have q2:=(row6 (hxH4.get w2 g2)).2.2.2.2.2.2;simp only[e4]
 repeat' (first|refine EvC.seq ?_|(refine EvC.reg ?_;simp (config := { maxSteps := 2000000 }) (disch:=first|omega|rfl) only[sB,Za,ld25,cl16,t3,t8,q2]))
 refine(zad r0' (hs4.bes hw hHB (hx12.trans hxH4)) w4 hs4 hps.wf.lo (hps.few (by omega) (by omega))).mono ?_;rintro v H5 ⟨rfl,hs5,hx5⟩;have hxH5:=hs4.hx hxH4 (Zd _) hx5;have w5:=hx5.wf;have hlay2:=hps.lay hbd';have hlay3:=fun (he:e0'=0)=>(hlay he).1.lay hbd'
 have hokk2:=ze2 (σ:=ρ) (t:=t');have m5:¬Mut H4 s H3.next:=hs3.fresh w3 hx4 (Zd _);have g5:=hx5.own w4 m5 g5;generalize hlv2:layV ρ t'=lv2 at *;obtain⟨τ,c1,e1'⟩:=lv2;simp only at hs5 hlay2 hokk2 hlay3;(try simp (config := { maxSteps := 2000000 }) (disch:=first|omega|rfl) only[sB,dAlloc,Za,Zb,one,zr29,st29]);obtain⟨H6,e6,hx6,g6,n6,w6⟩:=z0k w5 (.row [.int .i64 0,.int .i64 0] 29) (.row (two c1) 29);simp only[e6];have hs6:=hs5.keep w5 hx6;have hxH6:=hxH5.trans hx6;have q5:=z0s (hx6.get w5 g5);have q6:=z0s g6;have g3':=hxH6.get w2 g3;have g4':=hxH6.get w2 g4;have ne0:(H.next=H.next+1)=False:=by simp
 have ne00:(H.next+1=H.next)=False:=by simp
 have ne1:(H.next+1+1=H.next+1+1+1)=False:=by simp
 have ne2:(H.next+1+1+1=H.next+1+1)=False:=by simp
 have hxb:HX H ⟨H6.next+13,H6.t⟩:=(hx12.trans hxH6).bump 13;have hsb:St ⟨H6.next+13,H6.t⟩ H2.next s τ:=hs6.keep w6 ((HX.refl w6).bump 13);have fin:∀C D,HX H ((Heap.put ⟨H6.next+13,H6.t⟩ (H.next+1+1) (some C)).put (H.next+1+1+1) (some D))∧St ((Heap.put ⟨H6.next+13,H6.t⟩ (H.next+1+1) (some C)).put (H.next+1+1+1) (some D)) H2.next s τ:=fun C D=>by
  have hxc:=hxb.pt (i:=H.next+1+1) (by omega) (show Heap.get ⟨H6.next+13,H6.t⟩ _=_ from g3') (some C);have b1:=hsb.box hxb.wf (n:=H.next+1+1) (by have:=hxH6.next;show _ < H6.next+13;omega) (fun q=>by have:=hsb.mlo q;omega) (some C);have g4c:Heap.get (Heap.put ⟨H6.next+13,H6.t⟩ (H.next+1+1) (some C)) (H.next+1+1+1)=some (.row (two (0,0)) 29):=by rw[get_put,if_neg (by omega)];exact g4'
  exact⟨hxc.pt (i:=H.next+1+1+1) (by omega) g4c (some D),(b1.1.box hxc.wf (n:=H.next+1+1+1) (by rw[z0w];have:=hxH6.next;show _ < H6.next+13;omega) (fun q=>by have:=b1.1.mlo q;omega) (some D)).1⟩
 refine EvC.frame (fun tm=>tm.get 5=some (.pointer (some ⟨H.next+1+1,0,none⟩))∧tm.get 6=some (.pointer (some ⟨H.next+1+1+1,0,none⟩))∧tm.get 8=some (.pointer (some ⟨s,0,none⟩))∧tm.get 10=some (.pointer (some ⟨H3.next,0,none⟩))∧tm.get 11=some (.int .i64 e0')∧tm.get 12=some (.pointer (some ⟨H5.next,0,none⟩))∧tm.get 13=some (.int .i64 e1')) ⟨(by simp only[sG,Za,t5]),(by simp only[sG,Za,t6]),(by simp only[sG,Za,t8]),(by simp only[sG,Za]),(by simp only[sG,Za]),(by simp only[sG,Za]),(by simp only[sG,Za])⟩ ?_;clear t2 t3 t5 t6 t8 t9 e4 e6;rintro tm ⟨t5,t6,t8,t10,t11,t12,t13⟩;have hne3:∀{p:Nat},H2.next≤p→(H.next+1+1=p)=False:=fun h=>by simp;omega
 have hne31:(H.next+1+1=H3.next)=False:=by have:=hxH3.next;simp;omega
 have hne32:(H.next+1+1=H5.next)=False:=by have:=hxH5.next;simp;omega
 have hne33:(H3.next=H.next+1+1)=False:=by have:=hxH3.next;simp;omega
 have hne34:(H5.next=H.next+1+1)=False:=by have:=hxH5.next;simp;omega
 by_cases he:e0'=0;rotate_left
 ·repeat' (first|refine EvC.seq ?_|(refine EvC.ret ?_)|(refine EvC.drw [([(0,0),(1,0),(3,0),(4,0),(5,0),(9,0)],some 10),([(2,0)],some 11),([(6,0),(7,0),(8,0),(12,2)],none)] ?_ ?_;kernel_rfl;simp (config := { maxSteps := 2000000 }) (disch:=first|omega|rfl) only[sV,sD,sB,Za,Zb,one,reduceCtorEq,cutC,st29,ld29,t5,t6,t8,t10,t11,t12,g3',g4',q5,q6,z0p he,ne2,hne34,isAlloc,isRead]))
  exact z66 rfl (by simp only[sG,Za]) (by simp only[sB,Za,t5];rfl) (by simp only[sB,Za,Zb,cutC,ld29,ne0]) (by simp only[sB,Za,t6];rfl) (by simp only[sB,Za,Zb,cutC,ld29,ne00]) (by simp only[sG,Za]) ⟨(fin _ _).1,s,c0,c1,.inl rfl⟩
 by_cases he1:e1'=0;rotate_left
 ·repeat' (first|refine EvC.seq ?_|(refine EvC.ret ?_)|(refine EvC.drw [([(0,0),(1,0),(3,0),(4,0),(5,0),(9,0)],some 10),([(2,0)],some 11),([(6,0),(7,0),(8,0),(12,2)],none)] ?_ ?_;kernel_rfl;simp (config := { maxSteps := 2000000 }) (disch:=first|omega|rfl) only[sV,sD,sB,Za,Zb,one,reduceCtorEq,cutC,st29,ld29,t5,t6,t8,t10,t11,t12,t13,g3',g4',q5,q6,z13 he,z0p he1,ne2,hne34,isAlloc,isRead]))
  exact z66 rfl (by simp only[sG,Za]) (by simp only[sB,Za,t5];rfl) (by simp only[sB,Za,Zb,cutC,ld29,ne0]) (by simp only[sB,Za,t6];rfl) (by simp only[sB,Za,Zb,cutC,ld29,ne00]) (by simp only[sG,Za]) ⟨(fin _ _).1,s,c0,c1,.inl rfl⟩
 obtain⟨hp1,hr1,hg1⟩:=hlay he;obtain⟨hp2,hr2,hg2⟩:=hlay3 he he1;have hk1:=hokk he;have hk2:=hokk2 he1
 repeat' (first|refine EvC.seq ?_|(refine EvC.ret ?_)|(refine EvC.drw [([(0,0),(1,0),(3,0),(4,0),(5,0),(9,0)],some 10),([(2,0)],some 11),([(6,0),(7,0),(8,0),(12,2)],none)] ?_ ?_;kernel_rfl;simp (config := { maxSteps := 2000000 }) (disch:=first|omega|rfl) only[sV,sD,sB,Za,Zb,one,reduceCtorEq,cutC,st29,ld29,t5,t6,t8,t10,t11,t12,t13,g3',g4',q5,q6,z13 he,z13 he1,ne2,hne34,isAlloc,isRead]))
 refine z66 rfl (by simp only[sG,Za]) (by simp only[sB,Za,t5];rfl) (by simp only[sB,Za,Zb,cutC,ld29,ne0]) (by simp only[sB,Za,t6];rfl) (by simp only[sB,Za,Zb,cutC,ld29,ne00]) (by simp only[sG,Za]) ⟨(fin _ _).1,s,c0,c1,.inr ⟨rfl,H2.next,τ,hHB,(fin _ _).2,?_,hr1.grow hg2 hp1.wf.lo,hr2,hk1.1,hk2.1,?_⟩⟩
 ·have e:0+nd t+nd t'=nd t+nd t':=by omega
  rw[e] at hp2;exact hp2
 ·intro v hv;have h1:=hk1.2.1 v hv;obtain⟨n,rfl⟩:=Zo h1.1;exact hp2.okV (by rw[hp2.fv];have:=h1.2.1;have:=(z4u 6).1;omega)
theorem zrh {H0 H1:Heap}{B:List (Int × Tm)}{p r:Nat}(gp:H1.get p=some (.row [.map (some r)] 102)) (hm:MapT H0 H1 r B) (hx0:HX H0 H1) (hw0:H0.wf) (hf:∀n u,lookT B n=some u→Fine u) :
  ByOpt 54 #[.pointer (some ⟨p,0,none⟩)] (lookT B) fun G=>HX H1 G :=
 ⟨fun n G _ hj hw=>zmz (hj.get hx0.wf gp) (hm.keep hj hx0.wf) (hx0.trans hj) hw0,fun G G' hj hx=>hj.trans hx,hf⟩
abbrev zero7:List Value:=.int .i64 0 :: zero6
theorem row7 {H:Heap}{p:Nat}{T:TypeId}{x0 x1 x2 x3 x4 x5 x6:Value}(h:H.get p=some (Blk.row [x0,x1,x2,x3,x4,x5,x6] T)) :
  H.load ⟨p,0,none⟩ 1=some [x0]∧H.load ⟨p,1,none⟩ 6=some [x1,x2,x3,x4,x5,x6]∧H.load ⟨p,0,none⟩ 7=some [x0,x1,x2,x3,x4,x5,x6]:=by
 refine⟨?_,?_,?_⟩<;>simp only[Heap.load,Heap.cells,h]<;>rfl
theorem zq5 {B:List (Int × Tm)}{i:Nat}(h:i < B.length):B.take (i+1)=B.take i++[(B[i].1,B[i].2)]:=by rw[←ZK h]
set_option maxHeartbeats 16000000 in
theorem zri {t:Tm}{cs:List Value}{B:List (Int × Tm)}{a:Option Addr}{c:Nat}{H:Heap}(r0:RepT H t cs) (rb:RepB7 H B a c) (hw:H.wf) :
  EvF Tryd.prog okT 29 [.agg ⟨cs⟩,.slice a B.length c] H fun v H'=>HX H H' ∧
   ((PutOk t B∧∃out,v=.tuple ⟨[.agg ⟨out⟩,.int .i64 0]⟩∧RepS H' (Rg H.next H'.next) (subO (lookT B) t) out∧TopR H' 25 (Rg H.next H'.next) (subO (lookT B) t) out)∨(¬PutOk t B∧∃e:Int,v=.tuple ⟨[.agg ⟨zero6⟩,.int .i64 e]⟩∧e≠0)):=by
 have hmx:B.length≤9223372036854775807:=Zp rb.len rb.cap;obtain⟨at_,ct,cellst,rfl,-,-,-,-,-,rlt⟩:=r0.six;refine EvF.enter rfl Tryd.func29 (by decide) rfl ?_;(repeat refine EvC.seq ?_);refine EvC.reg ?_;simp (config := { maxSteps := 2000000 }) (disch:=first|omega|rfl) only[sB,initTm,dBox,dAlloc,Value.cells,one,reduceCtorEq,zr25];obtain⟨A2,e2,hx2,gt,g4,hn2,hw2⟩:=new2 hw (.row (six t at_ ct) 25) (.row zero6 25);simp only[e2];clear e2;(repeat refine EvC.seq ?_);refine EvC.reg ?_;simp (config := { maxSteps := 2000000 }) (disch:=first|omega|rfl) only[sA,dAlloc,zr25];obtain⟨A3,e3,hx3,g6,hn3,hw3⟩:=new1 hw2 (.row zero6 25);simp only[e3];clear e3;have gt:=hx3.get hw2 gt;have g4:=hx3.get hw2 g4;have hx:=hx2.trans hx3;rw[hn2] at g6 hn3;have qt:=row6 gt
 repeat' (first|refine EvC.seq ?_|(refine EvC.reg ?_;simp (config := { maxSteps := 2000000 }) (disch:=first|omega|rfl) only[sB,Za,reduceCtorEq,ld25,cl43,qt]))
 refine(z4s t _ _ (r0.mono hx hw) hx.wf).mono ?_;rintro v A4 ⟨rfl,k4⟩;have gt:=k4.get hx.wf gt;have g4:=k4.get hx.wf g4;have g6:=k4.get hx.wf g6;have hx:=hx.trans k4;have n4:=k4.next;have q6:=row6 g6;have ne46:(H.next+1=H.next+2)=False:=by simp
 by_cases h0:checkS t=0;rotate_left
 ·rw[hn2] at *
  repeat' (first|refine EvC.seq ?_|(refine EvC.ret ?_;try simp only[z05,z04])|(refine EvC.reg ?_;simp (config := { maxSteps := 2000000 }) (disch:=first|omega|rfl) only[sB,Za,Zb,one,reduceCtorEq,ld25,st25,z3r h0,q6,g4])|(refine EvC.condT ?_ ?_;simp (config := { maxSteps := 2000000 }) (disch:=first|omega|rfl) only[sB,Za,reduceCtorEq];refine z01 ?_))
  refine z0c rfl (by simp only[sB,Za,reduceCtorEq];rfl) (by simp only[sB,Zb,cutC,ld25]) (by simp only[sG,Za,reduceCtorEq]) ⟨hx.pt (by omega) g4 _,.inr ⟨fun h=>h0 h.1,_,rfl,h0⟩⟩
 rw[hn2] at *
 repeat' (first|refine EvC.seq ?_|refine EvC.block ?_|(refine EvC.skip ?_;try simp only[z00])|(refine EvC.reg ?_;simp (config := { maxSteps := 2000000 }) (disch:=first|omega|rfl) only[sB,dAlloc,Za,one,reduceCtorEq,zrm,zrn,ln69,z22 h0,z3i])|(refine EvC.condF ?_ ?_;simp (config := { maxSteps := 2000000 }) (disch:=first|omega|rfl) only[sB,Za,reduceCtorEq];refine z01 ?_))
 obtain⟨A5,e5,k5,gr,n5,w5⟩:=new1 hx.wf (.map [] 0);obtain⟨A6,e6,k6,gp,n6,w6⟩:=z0k w5 (.row [.map none] 102) (.row [.map (some A4.next)] 102);rw[n5] at e6 gp;simp only[e5,e6];have gr:=k6.get w5 gr;have k56:=k5.trans k6;have gt:=k56.get hx.wf gt;have g4:=k56.get hx.wf g4;have g6:=k56.get hx.wf g6;have hr4:=hx.next;have hx:=hx.trans k56;clear e5 e6 k5 k6 k56;have hpr:A4.next+1≠A4.next:=by omega
 have hm0:MapT H A6 A4.next (B.take 0):=⟨[],⟨[],0,gr,rfl⟩,fun n=>⟨fun u hu=>by simp [lookT] at hu,fun _=>rfl⟩⟩
 have hr5:H.next+3≤A4.next:=by omega
 have hp5:H.next+3≤A4.next+1:=by omega
 generalize A4.next+1=p at *;generalize A4.next=r at *;clear n4 n5 n6 gr hr4 hn3 hn2 k4 qt q6 hx2 hx3 hw2 hw3 w5;refine EvC.loop (fun k st=>∃tm H' i,st=⟨tm,[],H'⟩∧k=B.length - i∧i≤B.length∧tm.get 2=some (.pointer (some ⟨H.next,0,none⟩))∧tm.get 4=some (.pointer (some ⟨H.next+1,0,none⟩))∧tm.get 6=some (.pointer (some ⟨H.next+2,0,none⟩))∧tm.get 8=some (.pointer (some ⟨p,0,none⟩)) ∧
  tm.get 22=some (.slice a B.length c)∧tm.get 23=some (.int .i64 B.length)∧tm.get 24=some (.int .i64 (i:Nat))∧H'.get H.next=some (.row (six t at_ ct) 25)∧H'.get (H.next+1)=some (.row zero6 25)∧H'.get (H.next+2)=some (.row zero6 25) ∧
  H'.get p=some (.row [.map (some r)] 102)∧MapT H H' r (B.take i)∧(∀(j:Nat) (hj:j < B.length),j < i→0≤B[j].1∧lookT (B.take j) B[j].1=none∧checkS B[j].2=0)∧HX H H') ?_ B.length _ ?_
 rotate_left
 ·exact⟨_,_,0,rfl,rfl,ZA _,(by simp only[sG,Za,reduceCtorEq]),(by simp only[sG,Za,reduceCtorEq]),(by simp only[sG,Za,reduceCtorEq]),(by simp only[sG,Za,reduceCtorEq]),(by simp only[sG,Za,reduceCtorEq]),(by simp only[sG,Za,reduceCtorEq]),(by simp only[sB,Za,reduceCtorEq];rfl),gt,g4,g6,gp,hm0,fun j hj h=>by omega,hx⟩
 clear gt g4 g6 gp hm0 hx w6;rintro k st ⟨tm,A,i,rfl,rfl,hi,t2,t4,t6,t8,t22,t23,t24,gt,g4,g6,gp,hm,hok,hx⟩;have hwA:=hx.wf;have q6:=row6 g6;have qt:=row6 gt;by_cases hlt:i < B.length
 ·obtain⟨b,o,a1,c1,rfl,hld,hrb⟩:=rb.el i hlt;have hld:=hx.load hw hld;(repeat refine EvC.seq ?_);refine EvC.reg ?_;simp (config := { maxSteps := 2000000 }) (disch:=first|omega|rfl) only[sA,t23,t24,decl hlt];(repeat refine EvC.seq ?_);refine EvC.condT (by simp (config := { maxSteps := 2000000 }) (disch:=first|omega|rfl) only[sB]) ?_;(try refine EvC.skip ?_);(try simp only[z00,z0m]);refine EvC.seq ?_;refine EvC.block ?_;(repeat refine EvC.seq ?_);refine EvC.reg ?_;simp (config := { maxSteps := 2000000 }) (disch:=first|omega|rfl) only[sB,dAlloc,Za,Zb,one,ia69,ld71,zr71,st71,t22,t24,hld];obtain⟨A1,e1,k1,g10,n1,w1⟩:=z0k hwA (.row zero7 71) (.row (seven B[i].1 B[i].2 a1 c1) 71);simp only[e1];clear e1;have q10:=row7 g10;have lp:=row1 (k1.get hwA gp);obtain⟨M,hM,hMn⟩:=hm.keep k1 hwA;have gt1:=k1.get hwA gt;have g41:=k1.get hwA g4;have g61:=k1.get hwA g6;have gp1:=k1.get hwA gp;rcases zab (lookT (B.take i) B[i].1) with ⟨u,hl⟩|hl
  ·skip
   obtain⟨csu,hg,hru⟩:=(hMn B[i].1).1 u hl;obtain⟨a2,c2,cells2,rfl,-⟩:=hru.six;(repeat refine EvC.seq ?_);refine EvC.reg ?_;simp (config := { maxSteps := 2000000 }) (disch:=first|omega|rfl) only[sB,dAlloc,Za,Zb,one,zr25,st25,zdf,zbi,ld3,t8,lp,q10,z10,z59 zdy hM hg];obtain⟨A3,e3,k3,g3,n3,w3⟩:=z0k w1 (.row zero6 25) (.row (six u a2 c2) 25);simp only[e3];clear e3;have g43:=k3.get w1 g41;have q63:=row6 (k3.get w1 g61)
   repeat' (first|refine EvC.seq ?_|(refine EvC.ret ?_;try simp only[z05,z04])|(refine EvC.reg ?_;simp (config := { maxSteps := 2000000 }) (disch:=first|omega|rfl) only[sB,Za,Zb,one,ld25,st25,t4,t6,q63,g43])|(refine EvC.condT ?_ ?_;simp (config := { maxSteps := 2000000 }) (disch:=first|omega|rfl) only[sB,Za];refine z01 ?_))
   refine z0c rfl (by simp only[sB,Za,t4];rfl) (by simp only[sB,Zb,cutC,ld25]) (by simp only[sB,Za];rfl) ⟨((hx.trans k1).trans k3).pt (by omega) g43 _,.inr ⟨fun h=>?_,_,rfl,by decide⟩⟩;have:=(h.2.1 i hlt).2.1;rw[hl] at this;cases this
  ·skip
   have hg:=(hMn B[i].1).2 hl;(repeat refine EvC.seq ?_);refine EvC.reg ?_;simp (config := { maxSteps := 2000000 }) (disch:=first|omega|rfl) only[sB,dAlloc,Za,Zb,one,zr25,st25,zdf,zbi,ld3,t8,lp,q10,z10,z5a zdy hM hg];obtain⟨A3,e3,k3,g3,n3,w3⟩:=z0k w1 (.row zero6 25) (.row zero6 25);simp only[e3];clear e3;have g103:=k3.get w1 g10;have q103:=row7 g103;have g43:=k3.get w1 g41;have g63:=k3.get w1 g61;have q63:=row6 g63;have hx3:=(hx.trans k1).trans k3;by_cases hneg:B[i].1 < 0
   ·repeat' (first|refine EvC.seq ?_|(refine EvC.ret ?_;try simp only[z05,z04])|(refine EvC.reg ?_;simp (config := { maxSteps := 2000000 }) (disch:=first|omega|rfl) only[sB,Za,Zb,one,ld25,st25,zbi,ld3,t4,t6,q103,decide_eq_true hneg,q63,g43,Zg])|(refine EvC.condT ?_ ?_;simp (config := { maxSteps := 2000000 }) (disch:=first|omega|rfl) only[sB,Za];refine z01 ?_))
    refine z0c rfl (by simp only[sB,Za,t4];rfl) (by simp only[sB,Zb,cutC,ld25]) (by simp only[sB,Za];rfl) ⟨hx3.pt (by omega) g43 _,.inr ⟨fun h=>?_,_,rfl,by decide⟩⟩;have:=(h.2.1 i hlt).1;omega
   repeat' (first|refine EvC.seq ?_|(refine EvC.skip ?_;try simp only[z00])|(refine EvC.reg ?_;simp (config := { maxSteps := 2000000 }) (disch:=first|omega|rfl) only[sB,Za,ld25,cl43,zbi,ld3,zo5,q103,decide_eq_false hneg,Zg])|(refine EvC.condF ?_ ?_;simp (config := { maxSteps := 2000000 }) (disch:=first|omega|rfl) only[sB,Za];refine z01 ?_))
   refine(z4s _ _ _ (hrb.mono hx3 hw) hx3.wf).mono ?_;rintro v A5 ⟨rfl,k5⟩;have g105:=k5.get hx3.wf g103;have q105:=row7 g105;have g45:=k5.get hx3.wf g43;have g65:=k5.get hx3.wf g63;have q65:=row6 g65;have hx5:=hx3.trans k5;have k15:=(k1.trans k3).trans k5;by_cases hc:checkS B[i].2=0;rotate_left
   ·repeat' (first|refine EvC.seq ?_|(refine EvC.ret ?_;try simp only[z05,z04])|(refine EvC.reg ?_;simp (config := { maxSteps := 2000000 }) (disch:=first|omega|rfl) only[sB,Za,Zb,one,ld25,st25,t4,t6,z3r hc,q65,g45])|(refine EvC.condT ?_ ?_;simp (config := { maxSteps := 2000000 }) (disch:=first|omega|rfl) only[sB,Za];refine z01 ?_))
    refine z0c rfl (by simp only[sB,Za,t4];rfl) (by simp only[sB,Zb,cutC,ld25]) (by simp only[sG,Za]) ⟨hx5.pt (by omega) g45 _,.inr ⟨fun h=>hc (h.2.1 i hlt).2.2,_,rfl,hc⟩⟩
   have gp5:=k15.get hwA gp;have lp5:=row1 gp5;obtain⟨K,hup,hm6⟩:=(hm.keep k15 hwA).push zdy hl hrb;have hrl:=hm.lt hwA;have hrl5:r < A5.next:=Zk hrl k15.next
   repeat' (first|refine EvC.seq ?_|(refine EvC.skip ?_;try simp only[z00])|(refine EvC.reg ?_;simp (config := { maxSteps := 2000000 }) (disch:=first|omega|rfl) only[sB,Za,ld25,zdf,zbi,ld3,zo5,t8,t24,z22 hc,lp5,q105,z1v,hup,z0b])|(refine EvC.condF ?_ ?_;simp (config := { maxSteps := 2000000 }) (disch:=first|omega|rfl) only[sB,Za];refine z01 ?_))
   have gt5:=k15.get hwA gt;exact⟨B.length - (i+1),by omega,_,_,i+1,rfl,rfl,by omega,(by simp only[sG,Za,t2]),(by simp only[sG,Za,t4]),(by simp only[sG,Za,t6]),(by simp only[sG,Za,t8]),(by simp only[sG,Za,t22]),(by simp only[sG,Za,t23]),(by simp only[sB,Za];rfl),by rw[get_put,if_neg (by omega)];exact gt5,by rw[get_put,if_neg (by omega)];exact g45,by rw[get_put,if_neg (by omega)];exact g65,
    by rw[get_put,if_neg hpr];exact gp5,by rw[zq5 hlt];exact hm6,fun j hj hji=>by
     by_cases e:j=i
     ·subst e;exact⟨by omega,hl,hc⟩
     ·exact hok j hj (by omega),hx5.put (by omega) hrl5 _⟩
 ·obtain rfl:i=B.length:=by omega
  rw[List.take_length] at hm;have hfine:∀n u,lookT B n=some u→Fine u:=fun n u hu=>by
   obtain⟨j,hj,e⟩:=List.getElem_of_mem (zl7 hu);have:=(hok j hj hj).2.2;rw[e] at this;exact(z0h.1 this).2
  have hft:=(z0h.1 h0)
  repeat' (first|refine EvC.seq ?_|(refine EvC.exit ?_;try simp only[sB])|(refine EvC.reg ?_;simp (config := { maxSteps := 2000000 }) (disch:=first|omega|rfl) only[sB,dAlloc,Za,ld25,cl50,zr3,t2,t23,t24,decn hlt,qt])|(refine EvC.condF ?_ ?_;simp (config := { maxSteps := 2000000 }) (disch:=first|omega|rfl) only[sB];refine z01 ?_))
  refine(z4r t _ _ (r0.mono hx hw) hx.wf).mono ?_;rintro v A1 ⟨rfl,k1⟩;have gt1:=k1.get hwA gt;have g41:=k1.get hwA g4;have g61:=k1.get hwA g6;have gp1:=k1.get hwA gp;have hm1:=hm.keep k1 hwA;have hx1:=hx.trans k1;(try simp (config := { maxSteps := 2000000 }) (disch:=first|omega|rfl) only[sB,one,st3]);obtain⟨A2,e2,k2,gq,n2,w2⟩:=z0k hx1.wf (.row [.int .i64 0] 3) (.row [.int .i64 ((cnt t 0:Nat):Int)] 3);simp only[e2];clear e2;have qt2:=row6 (k2.get hx1.wf gt1);(repeat refine EvC.seq ?_);refine EvC.reg ?_;simp (config := { maxSteps := 2000000 }) (disch:=first|omega|rfl) only[sB,Za,ld25,cl51,t2,t8,qt2,List.map_toArray];have E:=zpy (tot:=occ t) (m:=cnt t 0) gp1 hm1 hx1 hw (Zd _) (by omega);refine(zk1 hx1.wf (by kernel_rfl) E _ (Zf _) (r0.mono hx1 hw) (S:=fun n=>n=A1.next) (pre:=[]) ⟨k2,fun n=>Iff.rfl,gq⟩ (by rw[List.nil_append];exact Zy _)).mono ?_;rintro v A3 ⟨S3,⟨k3,hS3,gq3⟩,-,-⟩;rw[List.nil_append] at gq3;have gt3:=k3.get hx1.wf gt1;have g43:=k3.get hx1.wf g41;have g63:=k3.get hx1.wf g61;have q63:=row6 g63;have qt3:=row6 gt3;have lq3:=row1 gq3;have hx3:=hx1.trans k3;by_cases h4:4000 < allS (lookT B) (cnt t 0) (occ t)
  ·have hd:decide (((allS (lookT B) (cnt t 0) (occ t):Nat):Int) > 4000)=true:=decide_eq_true (by omega)
   repeat' (first|refine EvC.seq ?_|(refine EvC.ret ?_;try simp only[z05,z04])|(refine EvC.reg ?_;simp (config := { maxSteps := 2000000 }) (disch:=first|omega|rfl) only[sB,Za,Zb,one,ld25,st25,ld3,t4,t6,lq3,hd,q63,g43])|(refine EvC.condT ?_ ?_;simp (config := { maxSteps := 2000000 }) (disch:=first|omega|rfl) only[sB,Za];refine z01 ?_))
   refine z0c rfl (by simp only[sB,Za,t4];rfl) (by simp only[sB,Zb,cutC,ld25]) (by simp only[sB,Za];rfl) ⟨hx3.pt (by omega) g43 _,.inr ⟨fun h=>?_,_,rfl,by decide⟩⟩;have:=h.2.2;omega
  ·have hd:decide (((allS (lookT B) (cnt t 0) (occ t):Nat):Int) > 4000)=false:=decide_eq_false (by omega)
   repeat' (first|refine EvC.seq ?_|(refine EvC.skip ?_;try simp only[z00])|(refine EvC.reg ?_;simp (config := { maxSteps := 2000000 }) (disch:=first|omega|rfl) only[sB,Za,ld25,ld3,cl53,t2,t8,lq3,hd,qt3,List.map_toArray])|(refine EvC.condF ?_ ?_;simp (config := { maxSteps := 2000000 }) (disch:=first|omega|rfl) only[sB,Za];refine z01 ?_))
   refine(zi0 (by kernel_rfl) (zrh gp1 hm1 hx1 hw hfine) (Zf _) (r0.mono hx3 hw) hft.2 k3 hx3.wf).mono ?_;rintro v A5 ⟨out,rfl,hrep,htop,k5⟩;have g45:=k5.get hx3.wf g43;obtain⟨a5,c5,cells5,rfl,-⟩:=hrep.rep.six
   repeat' (first|(refine EvC.ret ?_)|(refine z0n ?_;simp (config := { maxSteps := 2000000 }) (disch:=first|omega|rfl) only[sB,Zb,one,st25,t4,g45]))
   refine z0c rfl (by simp only[sB,Za,t4];rfl) (by simp only[sB,Zb,cutC,ld25];rfl) (by simp only[sG,Za]) ⟨(hx3.trans k5).pt (by omega) g45 _,.inl ⟨⟨h0,fun j hj=>hok j hj hj,by omega⟩,_,rfl,?_,?_⟩⟩
   ·have n3:=hx3.next;have l4:=hx3.wf _ _ g43;refine hrep.to fun n hn hl=>?_
    have:=hn.1;exact⟨by rw[get_put,if_neg (by omega)],⟨by omega,hl⟩,hl⟩
   ·have n3:=hx3.next;have l4:=hx3.wf _ _ g43;refine htop.heap fun n hn hl=>?_
    have:=hn.1;exact⟨by rw[get_put,if_neg (by omega)],⟨by omega,hl⟩,hl⟩
def bindsR:Nat→List Int→List (Int × Tm)
 |_,[]=>[]
 |n,v :: l=>(v,varT (n:Int)) :: bindsR (n+1) l
theorem z67:∀(a b:List Int) (n:Nat),bindsR n (a++b)=bindsR n a++bindsR (n+a.length) b
 |[],b,n=>rfl
 |v :: a,b,n=>by
  rw[List.cons_append,bindsR,z67 a b (n+1),bindsR,List.cons_append,ZJ];have:n+1+a.length=n+(a.length+1):=by omega
  rw[this]
theorem z39:∀(l:List Int) (n:Nat),(bindsR n l).length=l.length
 |[],_=>rfl
 |v :: l,n=>by rw[bindsR,ZJ,ZJ,z39 l]
theorem z4a:∀(l:List Int) (n i:Nat),(bindsR n l)[i]?=(l[i]?).map fun v=>(v,varT ((n+i:Nat):Int))
 |[],_,_=>rfl
 |v :: l,n,0=>rfl
 |v :: l,n,i+1=>by
  rw[bindsR,List.getElem?_cons_succ,List.getElem?_cons_succ,z4a l];have:n+1+i=n+(i+1):=by omega
  rw[this]
theorem ze3 {l:List Int}{n i:Nat}(h:i < l.length):bindsR n (l.take (i+1))=bindsR n (l.take i)++[(l[i],varT ((n+i:Nat):Int))]:=by
 rw[←ZK h,z67,Zt,Nat.min_eq_left (by omega)];rfl
theorem ze4 {l:List Int}{n i:Nat}(h:i≤l.length):(bindsR n l).take i=bindsR n (l.take i):=by
 have e:bindsR n l=bindsR n (l.take i)++bindsR (n+(l.take i).length) (l.drop i):=by rw[←z67,List.take_append_drop]
 rw[e,List.take_left' (by rw[z39,Zt];omega)]
theorem z9d:∀(L:List Int) (m:Nat) {n:Int}{i:Nat},L.idxOf? n=some i→lookT (bindsR m L) n=some (varT ((m+i:Nat):Int))
 |[],m,n,i,h=>by simp at h
 |u :: L,m,n,i,h=>by
  unfold List.idxOf? at h;rw[List.findIdx?_cons] at h;unfold lookT;rw[bindsR,List.find?_cons];by_cases e:(u == n)=true
  ·simp only[e,if_true,Option.some.injEq] at h;subst h;simp only[e];rfl
  ·rw[Zz] at e;simp only[e,Zg,if_false,Option.map_eq_some_iff] at h;obtain⟨j,hj,rfl⟩:=h;have h1:=z9d L (m+1) (n:=n) (i:=j) hj;unfold lookT at h1;simp only[e];rw[h1];have:m+1+j=m+(j+1):=by omega
   rw[this]
theorem ze5 {L:List Int}{m:Nat}{n:Int}(h:n∉L):lookT (bindsR m L) n=none:=by
 rw[zhz];intro p hp e;obtain⟨i,hi⟩:=List.getElem?_of_mem hp;rw[z4a,Option.map_eq_some_iff] at hi;obtain⟨v,hv,rfl⟩:=hi;exact h (e ▸ List.mem_of_getElem? hv)
theorem zrj (i:Int):nd (varT i)=1:=rfl
theorem zq6 {i:Int}(h:0≤i):checkS (varT i)=0:=zgg (z6p h) (by rw[zrj];omega)
theorem zgi {σ:Int→Option Tm}{m:Nat}:∀{l:List Int},(∀n∈l,∀u,σ n=some u→∃k,u=varT k)→allS σ m l=m
 |[],_=>rfl
 |n :: l,h=>by
  have e:addN σ m n=m:=by
   unfold addN;cases hs:σ n with
   |none=>rfl
   |some u =>
    obtain⟨k,rfl⟩:=h n (by simp) u hs;have:cnt (varT k) 0=1:=by rw[z29];show cntL [] 1=1;rw[cntL]
    simp only[this];split<;>omega
  unfold allS at *;rw[ZL,e];exact zgi fun n hn=>h n (Zj _ hn)
def newN (n:Nat) (t:Tm) (v:Int):Int:=(n:Int)+plcZ (uniq (occ t)) v
theorem z8c {n:Nat}{t:Tm}{v:Int}(h:v∈occ t):∃i:Nat,i < (uniq (occ t)).length∧newN n t v=((n+i:Nat):Int)∧lookT (bindsR n (uniq (occ t))) v=some (varT (newN n t v)):=by
 obtain⟨i,h1,h2⟩:=zac (z8b h);have e:newN n t v=((n+i:Nat):Int):=by unfold newN plcZ;rw[h1];simp
 exact⟨i,(List.getElem?_eq_some_iff.1 h2).1,e,by rw[e];exact z9d _ n h1⟩
theorem ze6 {n:Nat}{t:Tm}(hc:checkS t=0) (ho:∀v∈occ t,0≤v):PutOk t (bindsR n (uniq (occ t))):=by
 refine⟨hc,fun i hi=>?_,?_⟩
 ·have hi':i < (uniq (occ t)).length:=by rw[z39] at hi;exact hi
  have e:(bindsR n (uniq (occ t)))[i]=((uniq (occ t))[i],varT ((n+i:Nat):Int)):=by
   have:=z4a (uniq (occ t)) n i;rw[Zc hi,Zc hi'] at this;exact Option.some.inj this
  rw[e];refine⟨ho _ (zga (ZF hi')),?_,zq6 (by omega)⟩;rw[ze4 (by omega)];refine ze5 fun hm=>?_
  obtain⟨j,hj,e2⟩:=List.getElem_of_mem hm;rw[Zt] at hj;rw[List.getElem_take] at e2;exact(List.pairwise_iff_getElem.1 (z92 (occ t))) j i (by omega) hi' (by omega) e2
 ·have hz:=(z0h.1 hc).1;rw[zgi]
  ·exact hz
  ·intro v hv u hu;obtain⟨i,-,-,h3⟩:=z8c (n:=n) hv;rw[h3] at hu;exact⟨_,(Option.some.inj hu).symm⟩
theorem zlj {n:Nat}{t:Tm}(hf:Fine t):subO (lookT (bindsR n (uniq (occ t)))) t=ren (newN n t) t :=
 zgb _ (Zf _) hf fun v hv=>by obtain⟨i,-,-,h3⟩:=z8c (n:=n) hv;exact h3
theorem zn6 {n:Nat}{t:Tm}:∀a∈occ t,∀b∈occ t,newN n t a=newN n t b→a=b:=fun a ha b hb h =>
 zpz (z8b ha) (z8b hb) (by unfold newN at h;omega)
theorem zq7 (n:Nat) (t:Tm) (v:Int):0≤newN n t v:=by have:=(z5s (uniq (occ t)) v).1;unfold newN;omega
theorem zn7 {n:Nat}{t:Tm}(hf:Fine t):Fine (ren (newN n t) t):=zaa (fun v _=>z6p (zq7 n t v)) _ t (Zf _) hf
theorem zlk {n:Nat}{t:Tm}(hc:checkS t=0):checkS (ren (newN n t) t)=0:=by
 have hf:=(z0h.1 hc).2;exact zgg (zn7 hf) (by rw[zlb _ (Zf _) hf];exact zcn hc)
def mkS (σ:SS):Nat→SS
 |0=>σ
 |k+1=>makeS (mkS σ k)
theorem PS.mk' {σ:SS}{w:Nat}(h:PS σ w 0):∀k,PS (mkS σ k) w k
 |0=>h
 |k+1=>(h.mk' k).make
theorem zgj (σ:SS):∀k,Grow σ (mkS σ k)
 |0=>Grow.refl σ
 |k+1=>(zgj σ k).trans (z5q _)
theorem RC.told {σ:SS}{c:Int × Int}{t:Tm}(h:RC σ c t) (hn:nd t≤4000):termS σ c=(t,0):=by
 have ht:=zl1 4001 (n:=0) h.rd (by omega) (by omega);unfold termS;rw[h.may,ht,if_neg (by simp),if_neg (by simp only;omega)]
abbrev rowB (p:Int × Tm):List Value:=seven p.1 p.2 none 0
theorem zll {H:Heap}{e:TypeId}{base:Nat}{B:List (Int × Tm)}{v:Value}(h:RepO H e 7 base (B.map rowB) v) (hr:∀p∈B,RepT H p.2 (six p.2 none 0)):∃a c,v=.slice a B.length c∧RepB7 H B a c:=by
 rcases h with ⟨h1,rfl⟩|⟨b,c,h,rfl⟩
 ·have:B=[]:=by simpa using h1
  subst this;exact⟨none,0,rfl,Zd _,ZA _,fun i hi=>by simp at hi⟩
 ·have hl:=h.len;simp only[Zn] at hl ⊢;refine⟨_,c,rfl,hl,h.cap,fun i hi=>⟨b,0,none,0,rfl,?_,hr _ (ZF hi)⟩⟩;rw[Nat.zero_add];exact h.load (by rw[Zl,Zc hi];rfl)
theorem _root_.Go.Hb.SX.load {s:Nat}{H H':Heap}(h:SX s H H') {b o n:Nat}(hb:b < H.next) (hm:¬Mut H s b) {l:List Value}(hl:H.load ⟨b,o,none⟩ n=some l):H'.load ⟨b,o,none⟩ n=some l:=by
 unfold Heap.load Heap.cells at hl ⊢;simp only at hl ⊢;rw[h.get hb hm];exact hl
set_option maxHeartbeats 8000000 in
theorem zn8 {H:Heap}{B s w:Nat}{σ:SS}{x:Int × Int}{t:Tm}(hw:H.wf) (hs:St H B s σ) (hp:PS σ w 0) (hwb:w≤10000) (rx:RC σ x t) (hc:checkS t=0) (hnn:∀v∈occ t,0≤v) :
  EvF Tryd.prog okT 8 [.pointer (some ⟨s,0,none⟩),.agg ⟨two x⟩] H fun r H'=>∃c τ,r=.tuple ⟨[.agg ⟨two c⟩,.int .i64 0]⟩∧St H' B s τ∧SX s H H'∧Grow σ τ∧(∃w' k',w'≤20000∧k'≤20000∧PS τ w' k')∧RC τ c (ren (newN 6 t) t):=by
 have hs0:=hs.lt hw;have hf:=(z0h.1 hc).2;have hn:=zcn hc;have hT:=hp.tok (by omega) (by omega);have hterm:=rx.told hn;refine EvF.enter rfl Tryd.func8 (by decide) rfl ?_;(repeat refine EvC.seq ?_);refine EvC.reg ?_;simp (config := { maxSteps := 2000000 }) (disch:=first|omega|rfl) only[sB,initTm,dBox,dAlloc,Value.cells,one,reduceCtorEq,zr29];obtain⟨H1,e1,hx1,g3,g4,n1,w1⟩:=new2 hw (.row (two x) 29) (.row (two (0,0)) 29);simp only[e1];have hs1:=hs.keep hw hx1;have q3:=z0s g3
 repeat' (first|refine EvC.seq ?_|(refine EvC.skip ?_;try simp only[z00])|(refine EvC.reg ?_;simp (config := { maxSteps := 2000000 }) (disch:=first|omega|rfl) only[sB,Za,reduceCtorEq,ld29,cl9,bEqP,q3])|(refine EvC.condF ?_ ?_;simp (config := { maxSteps := 2000000 }) (disch:=first|omega|rfl) only[sB,Za,reduceCtorEq];refine z01 ?_))
 refine(zdo hT hp.wf.lo hs1 w1).mono ?_;rintro r H2 ⟨cs2,rfl,hrF,hx2⟩;rw[hterm] at hrF ⊢;have hrS:=RepF.toS hrF hx2.wf;obtain⟨a2,c2,rfl,-⟩:=hrF;simp only at hrS ⊢;obtain⟨H3,e3,hx3,g6,n3,w3⟩:=z0k hx2.wf (.row zero6 25) (.row (six t a2 c2) 25);have q6:=row6 g6;obtain⟨H4,e4,hx4,g7,n4,w4⟩:=new1 w3 (.row (six t a2 c2) 25)
 repeat' (first|refine EvC.seq ?_|(refine EvC.skip ?_;try simp only[z00])|(refine EvC.reg ?_;simp (config := { maxSteps := 2000000 }) (disch:=first|omega|rfl) only[sB,Za,Zb,Value.cells,one,reduceCtorEq,layC,ld25,z5b,cl12,z22 rfl,q6,e4])|(refine z0n ?_;simp (config := { maxSteps := 2000000 }) (disch:=first|omega|rfl) only[sB,dAlloc,Za,Zb,one,reduceCtorEq,zr25,st25,e3])|(refine EvC.condF ?_ ?_;simp (config := { maxSteps := 2000000 }) (disch:=first|omega|rfl) only[sB,Za,reduceCtorEq];refine z01 ?_))
 refine(z2i (hrS.rep.mono (hx3.trans hx4) hx2.wf) g7 w4).mono ?_;rintro v H5 ⟨u,rfl,hI,hx5⟩;rw[if_pos hc] at hI;rw[hc];have w5:=hx5.wf;have hx25:=(hx3.trans hx4).trans hx5;have hx15:=hx2.trans hx25;have hx05:=hx1.trans hx15;have hs5:=hs.keep hw hx05;have nf:∀n,H.next≤n→¬Mut H5 s n:=fun n hn=>hs.fresh hw hx05 hn
 have g4:=hx15.get w1 g4;have g6:=hx5.get w4 (hx4.get w3 g6);have hl2:H.next≤H2.next:=Zp hx1.next hx2.next;have hl4:H.next≤H4.next:=Zp hl2 (hx3.trans hx4).next;obtain⟨HT,rT,bT⟩:=zlh (H:=H5) (s:=s) (S:=Rg H1.next H2.next) (fun n hn=>nf n (by have:=hn.1;omega)) (hrS.to fun n hn hl=>⟨hx25.keep n hl,hn,Zk hl hx25.next⟩);have hul:=z6l (occ t);have hof:=z85 hc;have hocc:=fun v=>z8c (n:=6) (t:=t) (v:=v)
 have hpok:=ze6 (n:=6) hc hnn;have hsub:=zlj (n:=6) hf;generalize hU:uniq (occ t)=U at *;obtain⟨va,vc,rfl,hvl,hvm⟩:=hI.slice;have hvars:∀i,(mkS σ i).vars.length=6+i:=fun i=>(hp.mk' i).fv
 repeat' (first|refine EvC.seq ?_|refine EvC.block ?_|(refine EvC.reg ?_;simp (config := { maxSteps := 2000000 }) (disch:=first|omega|rfl) only[sB,Za,reduceCtorEq,ln42])|(refine z0n ?_;simp (config := { maxSteps := 2000000 }) (disch:=first|omega|rfl) only[sB,Za,reduceCtorEq]))
 refine EvC.loop (fun k st=>∃(tm:Tr Value) (G:Heap) (i:Nat) (v:Value),st=⟨tm,[],G⟩∧k=U.length - i∧i≤U.length∧tm.get 0=some (.pointer (some ⟨s,0,none⟩))∧tm.get 4=some (.pointer (some ⟨H.next+1,0,none⟩))∧tm.get 6=some (.pointer (some ⟨H2.next,0,none⟩)) ∧
   tm.get 34=some (.slice va U.length vc)∧tm.get 35=some (.int .i64 U.length)∧tm.get 36=some (.int .i64 (i:Nat))∧tm.get 10=some v∧St G B s (mkS σ i)∧SX s H5 G∧RepO G 71 7 H5.next ((bindsR 6 (U.take i)).map rowB) v∧(∀n,blkOf v=some n→¬Mut G s n)) ?_ U.length _ ?_
 rotate_left
 ·refine⟨_,_,0,_,rfl,rfl,by omega,(by simp only[sG,reduceCtorEq]),(by simp only[sG,Za,reduceCtorEq]),(by simp only[sG,Za,reduceCtorEq]),(by simp only[sG,Za,reduceCtorEq]),(by simp only[sG,Za,reduceCtorEq]),(by simp only[sB,Za,reduceCtorEq];rfl),(by simp only[sB,Za,reduceCtorEq];rfl),hs5,SX.refl w5,?_,fun n hn=>by cases hn⟩;rw[List.take_zero];exact RepO.empty
 rintro k st ⟨tm,G,i,v,rfl,rfl,hi,t0,t4,t6,t34,t35,t36,t10,hsG,hxG,hro,hnm⟩;have wG:=hxG.wf;have hpi:=hp.mk' i;by_cases hlt:i < U.length
 ·obtain⟨vb,rfl,-,hld,hvb⟩:=hI.at hlt;have hldG:=hxG.load hvb.2 (nf vb (by have:=hvb.1;omega)) hld
  repeat' (first|refine EvC.seq ?_|refine EvC.block ?_|(refine EvC.skip ?_;try simp only[z00])|(refine EvC.reg ?_;simp (config := { maxSteps := 2000000 }) (disch:=first|omega|rfl) only[sB,Za,Zb,Value.cells,one,reduceCtorEq,Zm,layC,ia42,ld3,cl15,bd25,t34,t35,t36,decl hlt,hldG,t10,t0])|(refine EvC.condT ?_ ?_;simp (config := { maxSteps := 2000000 }) (disch:=first|omega|rfl) only[sB];refine z01 ?_))
  refine(zk6 hsG wG (by have:=hpi.fc;unfold most;omega) (by rw[hpi.wf.lo];have:=hpi.fc;unfold most;omega) (by rw[hvars];unfold most;omega) (by rw[hpi.wf.lf,hvars];unfold most;omega)).mono ?_;rintro r K1 ⟨rfl,hsK1,hxK1⟩;have hsK1:St K1 B s (mkS σ (i+1)):=hsK1;rw[hvars i];have wK1:=hxK1.wf;obtain⟨K2,f2,hy2,k2,m2,v2⟩:=new1 wK1 (.row [.int .i64 U[i],.int .i64 1,.string Ze,.string Ze,.int .u64 0,.int .i64 ((6+i:Nat):Int),.slice none 0 0] 71);have hsK2:=hsK1.keep wK1 hy2;have hx2':=hxG.trans (hxK1.trans (hy2.sx (hsK1.lt wK1)));have hlo:∀n,blkOf v=some n→H5.next≤n∧n < G.next:=fun n hn=>FR.lo (f:=.sl 71 7 ((bindsR 6 (U.take i)).map rowB)) hro hn
  have hnmK1:∀n,blkOf v=some n→¬Mut K1 s n:=fun n hn=>hxK1.nm (hlo n hn).2 (hnm n hn)
  have hroK2:RepO K2 71 7 H5.next ((bindsR 6 (U.take i)).map rowB) v :=
   FR.heap (f:=.sl 71 7 ((bindsR 6 (U.take i)).map rowB)) hro (fun n hn=>by
    rw[hy2.keep n (Zk (hlo n hn).2 hxK1.next),hxK1.get (hlo n hn).2 (hnm n hn)]) (Zp hxK1.next hy2.next)
  have hnmK2:∀n,blkOf v=some n→¬Mut K2 s n:=fun n hn q=>hnmK1 n hn (HX.mut hy2 (hsK1.lt wK1) q)
  obtain⟨K3,c3,ea,oa,m3,wK3,kk,-⟩:=FR.push (P:=Tryd.prog) (t:=69) (c1:=1) (ad:=⟨K1.next,0,none⟩) (y:=rowB (U[i],varT ((6+i:Nat):Int))) (show FR K2 H5.next (.sl 71 7 ((bindsR 6 (U.take i)).map rowB)) v from hroK2) v2 ap69
   (by simp only[Heap.load,Heap.cells,k2];rfl) rfl rfl (by rw[Zn,z39,Zt];unfold most;omega) (by have:=hx2'.next;omega)
  have hk:HK (fun n=>blkOf v=some n) K2 K3:=⟨by omega,fun n hn hne=>kk n hn hne,wK3⟩
  obtain⟨hs3,hmut⟩:=hsK2.beside v2 hk hnmK2;have hx3':SX s H5 K3:=⟨⟨by have:=hx2'.next;omega,fun n hn hm=>(kk n (Zk hn hx2'.next) (fun e=>by have:=(hlo n e).1;omega)).trans (hx2'.hk.keep n hn hm),wK3⟩,fun n hm=>hx2'.mt n (hmut n hm)⟩
  have ew:IntKind.i64.wrap ((i:Int)+1)=((i+1:Nat):Int):=by rw[z0b]<;>omega
  have hro3:RepO K3 71 7 H5.next ((bindsR 6 (U.take (i+1))).map rowB) (.slice (some ⟨K2.next,0,none⟩) (((bindsR 6 (U.take i)).map rowB).length+1) c3):=by
   rw[ze3 hlt,ZE];exact .inr ⟨_,c3,oa,by simp⟩
  repeat' (first|(refine EvC.reg ?_;simp (config := { maxSteps := 2000000 }) (disch:=first|omega|rfl) only[sB,Za,t36,ew])|(refine z0n ?_;simp (config := { maxSteps := 2000000 }) (disch:=first|omega|rfl) only[sB,Za,Zb,Value.cells,one,Zm,layC,bd71,zqk,f2,ea]))
  refine⟨_,by omega,_,K3,i+1,_,rfl,rfl,by omega,(by simp only[sG,reduceCtorEq,t0]),(by simp only[sG,Za,t4]),(by simp only[sG,Za,t6]),(by simp only[sG,Za,t34]),(by simp only[sG,Za,t35]),(by simp only[sG,Za]),(by simp only[sG,Za]),hs3,hx3',hro3,fun n hn q=>?_⟩;have:K2.next=n:=Option.some.inj hn;have:=hsK2.mhi v2 (hmut n q);omega
 obtain rfl:i=U.length:=by omega
 rw[List.take_length] at hro;have g6G:=hxG.own w5 (nf _ hl2) g6;have g4G:=hxG.own w5 (nf _ (Nat.le_succ _)) g4;have nm4G:=hxG.nm (w5 _ _ g4) (nf _ (Nat.le_succ _));have q6G:=row6 g6G;have rTG:=(bT.sx w5 hxG).rep rT;obtain⟨ba,bc,rfl,hb7⟩:=zll hro fun p hp'=>by
  obtain⟨j,hj⟩:=List.getElem?_of_mem hp';have hjl:=(List.getElem?_eq_some_iff.1 hj).1;rw[z39] at hjl;rw[z4a,Option.map_eq_some_iff] at hj;obtain⟨v,-,rfl⟩:=hj;exact zl5 ⟨by omega,by omega⟩
 repeat' (first|refine EvC.seq ?_|(refine EvC.exit ?_;try simp only[sB])|(refine EvC.reg ?_;simp (config := { maxSteps := 2000000 }) (disch:=first|omega|rfl) only[sB,Za,ld25,cl29,t6,t10,t35,t36,decn hlt,q6G])|(refine EvC.condF ?_ ?_;simp (config := { maxSteps := 2000000 }) (disch:=first|omega|rfl) only[sB];refine z01 ?_))
 refine(zri rTG hb7 wG).mono ?_;rintro r G2 ⟨hy2,h2⟩;rcases h2 with ⟨-,out,rfl,hS2,-⟩|⟨hno,-⟩
 rotate_left
 ·exact absurd hpok hno
 rw[hsub] at hS2;obtain⟨ao,co,cellso,rfl,-⟩:=hS2.rep.six;(try simp (config := { maxSteps := 2000000 }) (disch:=first|omega|rfl) only[sB,dAlloc,Za,Zb,one,zr25,st25]);obtain⟨G3,f3,hy3,k3,m3,v3⟩:=z0k hy2.wf (.row zero6 25) (.row (six (ren (newN 6 t) t) ao co) 25);simp only[f3];have q13:=row6 k3;have hy23:=hy2.trans hy3;have hsG3:=hsG.keep wG hy23;obtain⟨HC,rC,bC⟩:=zlh (H:=G3) (s:=s) (S:=Rg G.next G2.next) (fun n hn=>hsG.fresh wG hy23 hn.1) (hS2.to fun n hn hl=>⟨hy3.keep n hl,hn,Zk hl hy3.next⟩);have hc':=zlk (n:=6) hc;have hf':=(z0h.1 hc').2;have hbd':=zfz _ (Zf _) rC
 repeat' (first|refine EvC.seq ?_|(refine EvC.reg ?_;simp (config := { maxSteps := 2000000 }) (disch:=first|omega|rfl) only[sB,Za,reduceCtorEq,ld25,cl16,t0,q13]))
 refine(zad rC bC v3 hsG3 hpi.wf.lo (hpi.few (by omega) (by omega))).mono ?_;rintro r G4 ⟨rfl,hs4,hx4'⟩;have h0:(layV (mkS σ U.length) (ren (newN 6 t) t)).2.2=0:=zn3 hc' fun v hv=>by
  rw[zdz _ (Zf _) hf] at hv;obtain⟨y,hy,rfl⟩:=List.mem_map.1 hv;obtain⟨i,hi,e,-⟩:=hocc _ hy;rw[e];exact hpi.okV (by rw[hvars];omega)
 obtain⟨p1,p2,p3⟩:=hpi.lay hbd' h0;rw[h0];have g4F:=hx4'.own v3 (fun q=>nm4G (HX.mut hy23 (hsG.lt wG) q)) (hy23.get wG g4G);have nm4F:=hx4'.nm (v3 _ _ (hy23.get wG g4G)) (fun q=>nm4G (HX.mut hy23 (hsG.lt wG) q));have l4F:=hx4'.wf _ _ g4F
 repeat' (first|(refine EvC.ret ?_)|(refine z0n ?_;simp (config := { maxSteps := 2000000 }) (disch:=first|omega|rfl) only[sB,Za,Zb,one,st29,t4,g4F]))
 refine z0c rfl (by simp only[sB,Za,t4];rfl) (by simp only[sB,Zb,cutC,ld29]) (by simp only[sG,Za]) ⟨_,_,rfl,(hs4.box hx4'.wf l4F nm4F _).1,?_,(zgj σ _).trans p3,⟨_,_,?_,?_,p1⟩,p2⟩
 ·exact((hx05.sx hs0).trans ((hxG.trans (hy23.sx (hsG.lt wG))).trans hx4')).box (Nat.le_succ _) l4F nm4F _
 ·have:=zcn hc';omega
 ·omega
set_option maxHeartbeats 4000000 in
theorem zn9 {H:Heap}{B s:Nat}{σ:SS}{x:Int × Int}{t:Tm}(hw:H.wf) (hs:St H B s σ) (ho:σ.own.length=σ.cells.length) (hT:TOk σ) (rx:RC σ x t) (hc:checkS t=0) :
  EvF Tryd.prog okT 11 [.pointer (some ⟨s,0,none⟩),.agg ⟨two x⟩] H fun r H'=>∃u,r=.tuple ⟨[u,.int .i64 0]⟩∧HX H H'∧IntL H' 3 (Rg H.next H'.next) (uniq (occ t)) u:=by
 have hterm:=rx.told (zcn hc);refine EvF.enter rfl Tryd.func11 (by decide) rfl ?_;(repeat refine EvC.seq ?_);refine EvC.reg ?_;simp (config := { maxSteps := 2000000 }) (disch:=first|omega|rfl) only[sB,initTm,dBox,Value.cells,one,reduceCtorEq];obtain⟨H1,e1,hx1,g3,n1,w1⟩:=new1 hw (.row (two x) 29);simp only[e1];have q3:=z0s g3
 repeat' (first|refine EvC.seq ?_|(refine EvC.skip ?_;try simp only[z00])|(refine EvC.reg ?_;simp (config := { maxSteps := 2000000 }) (disch:=first|omega|rfl) only[sB,Za,reduceCtorEq,ld29,cl9,bEqP,q3])|(refine EvC.condF ?_ ?_;simp (config := { maxSteps := 2000000 }) (disch:=first|omega|rfl) only[sB,Za,reduceCtorEq];refine z01 ?_))
 refine(zdo hT ho (hs.keep hw hx1) w1).mono ?_;rintro r H2 ⟨cs2,rfl,hrF,hx2⟩;rw[hterm] at hrF ⊢;have hr:=hrF.rep;obtain⟨a2,c2,rfl,-⟩:=hrF;simp only at hr ⊢;obtain⟨H3,e3,hx3,g6,n3,w3⟩:=z0k hx2.wf (.row zero6 25) (.row (six t a2 c2) 25);have q6:=row6 g6;obtain⟨H4,e4,hx4,g7,n4,w4⟩:=new1 w3 (.row (six t a2 c2) 25)
 repeat' (first|refine EvC.seq ?_|(refine EvC.skip ?_;try simp only[z00])|(refine EvC.reg ?_;simp (config := { maxSteps := 2000000 }) (disch:=first|omega|rfl) only[sB,Za,Zb,Value.cells,one,reduceCtorEq,layC,ld25,z5b,cl12,z22 rfl,q6,e4])|(refine z0n ?_;simp (config := { maxSteps := 2000000 }) (disch:=first|omega|rfl) only[sB,dAlloc,Za,Zb,one,reduceCtorEq,zr25,st25,e3])|(refine EvC.condF ?_ ?_;simp (config := { maxSteps := 2000000 }) (disch:=first|omega|rfl) only[sB,Za,reduceCtorEq];refine z01 ?_))
 refine(z2i (hr.mono (hx3.trans hx4) hx2.wf) g7 w4).mono ?_;rintro v H5 ⟨u,rfl,hI,hx5⟩;rw[if_pos hc] at hI;rw[hc]
 repeat' (first|(refine EvC.ret ?_)|(refine z0n ?_;simp (config := { maxSteps := 2000000 }) (disch:=first|omega|rfl) only[sB,Za,reduceCtorEq]))
 have hx14:=((hx1.trans hx2).trans hx3).trans hx4;refine z0t rfl (by simp only[sG,Za,reduceCtorEq]) (by simp only[sG,Za,reduceCtorEq]) ⟨u,rfl,hx14.trans hx5,?_⟩;rcases hI with h|⟨b,c',h1,h2,h3,h4,h5⟩
 ·exact .inl h
 ·exact .inr ⟨b,c',h1,h2,h3,h4,by have:=hx14.next;exact⟨by have:=h5.1;omega,h5.2⟩⟩
end Go.Proofs.hq
end

section
namespace Go.Hb
open Go Go.RowKit
structure RdI (H:Heap) (L:List Int) (a:Option Addr) (c:Nat):Prop where
 len:L.length≤c
 cap:c≤maxLen
 get:∀(i:Nat) (h:i < L.length),∃b o,a=some ⟨b,o,none⟩∧H.load ⟨b,o+i,none⟩ 1=some [.int .i64 L[i]]
theorem RdI.max {H:Heap}{L:List Int}{a:Option Addr}{c:Nat}(h:RdI H L a c):L.length≤9223372036854775807:=Zp h.len h.cap
end Go.Hb
namespace Go.Proofs.hq
open Go Go.RowKit Go.Hb
variable {ok:Ok}
set_option maxRecDepth 10000
attribute [local irreducible] LX LG EL STG SOP SGO SGD SAL SRD SEF SEG SLK SCK ES
theorem IntL.rd {H:Heap}{T:TypeId}{S:Nat→Prop}{L:List Int}{v:Value}(h:IntL H T S L v):∃a c,v=.slice a L.length c∧RdI H L a c∧(∀b o,a=some ⟨b,o,none⟩→S b):=by
 rcases h with ⟨rfl,rfl⟩|⟨b,c,rfl,h2,h3,h4,h5⟩
 ·exact⟨none,0,rfl,⟨Zd _,ZA _,fun i h=>by simp at h⟩,fun b o h=>by cases h⟩
 ·refine⟨_,c,rfl,⟨h2,h3,fun i hi=>⟨b,0,rfl,?_⟩⟩,fun b' o h=>by cases h;exact h5⟩;unfold Heap.load Heap.cells;simp only[h4,Nat.zero_add];have:(List.drop i (L.map fun n=>Value.int .i64 n)).take 1=[.int .i64 L[i]]:=by
   rw[ZB (by simpa using hi)];simp
  rw[this];rfl
theorem ze7 {L L':List Int}{a a':Option Addr}{c c':Nat}{H:Heap}(h:RdI H L a c) (h':RdI H L' a' c') (hw:H.wf) :
  EvF Tryd.prog okT 13 [.slice a L.length c,.slice a' L'.length c'] H fun v H'=>v=.bool (decide (L=L'))∧HX H H':=by
 have hm:=h.max;refine EvF.enter rfl Tryd.func13 (by decide) rfl ?_;by_cases k6:(L.length:Int)=L'.length;rotate_left
 ·repeat' (first|refine EvC.seq ?_|(refine EvC.ret ?_;try simp only[z05,z04])|(refine EvC.reg ?_;simp (config := { maxSteps := 2000000 }) (disch:=first|omega|rfl) only[sB,initTm,Za,reduceCtorEq,ln42,z3r k6])|(refine EvC.condT ?_ ?_;simp (config := { maxSteps := 2000000 }) (disch:=first|omega|rfl) only[sB,Za,reduceCtorEq];refine z01 ?_))
  exact z03 rfl (by simp only[sB,Za,reduceCtorEq];rfl) ⟨by rw[decide_eq_false (fun h=>k6 (by rw[h]))],HX.refl hw⟩
 have hlen:L.length=L'.length:=by omega
 repeat' (first|refine EvC.seq ?_|refine EvC.block ?_|(refine EvC.skip ?_;try simp only[z00])|(refine EvC.reg ?_;simp (config := { maxSteps := 2000000 }) (disch:=first|omega|rfl) only[sB,initTm,Za,reduceCtorEq,ln42,z22 k6])|(refine EvC.condF ?_ ?_;simp (config := { maxSteps := 2000000 }) (disch:=first|omega|rfl) only[sB,Za,reduceCtorEq];refine z01 ?_))
 refine EvC.loop (fun k st=>∃tm H' i,st=⟨tm,[],H'⟩∧k=L.length - i∧i≤L.length∧(∀j:Nat,j < i→L[j]?=L'[j]?) ∧
   tm.get 0=some (.slice a L.length c)∧tm.get 1=some (.slice a' L'.length c')∧tm.get 5=some (.int .i64 (i:Nat))∧HX H H') ?_ L.length _ ?_
 ·rintro k st ⟨tm,H',i,rfl,rfl,hi,hc,t0,t1,t5,hx'⟩;by_cases hlt:i < L.length
  ·have hlt':i < L'.length:=by omega
   obtain⟨b,o,rfl,hl⟩:=h.get i hlt;obtain⟨b',o',rfl,hl'⟩:=h'.get i hlt';have l1:=hx'.load hw hl;have l2:=hx'.load hw hl';by_cases he:L[i]=L'[i]
   ·repeat' (first|refine EvC.seq ?_|refine EvC.block ?_|(refine EvC.skip ?_;try simp only[sA])|(refine EvC.reg ?_;simp (config := { maxSteps := 2000000 }) (disch:=first|omega|rfl) only[sB,Za,reduceCtorEq,ln42,t0,t5,decl hlt,z0b])|(refine EvC.drw [([(0,0),(1,0),(2,0),(3,0),(4,0),(5,0),(6,0),(7,0),(8,0)],none)] ?_ ?_;kernel_rfl;simp (config := { maxSteps := 2000000 }) (disch:=first|omega|rfl) only[sD,sB,Za,Zb,reduceCtorEq,ia42,ld3,t0,t1,t5,l1,l2,z22 he,isAlloc,isRead])|(refine EvC.condT ?_ ?_;simp (config := { maxSteps := 2000000 }) (disch:=first|omega|rfl) only[sB,Za];refine z01 ?_)|(refine EvC.condF ?_ ?_;simp (config := { maxSteps := 2000000 }) (disch:=first|omega|rfl) only[sB,Za];refine z01 ?_))
    refine⟨L.length - (i+1),by omega,_,_,i+1,rfl,rfl,by omega,fun j hj=>?_,(by simp only[sG,reduceCtorEq,t0]),(by simp only[sG,Za,t1]),(by simp only[sB,Za];rfl),hx'.bump _⟩;by_cases hji:j=i
    ·subst hji;rw[Zc hlt,Zc hlt',he]
    ·exact hc j (by omega)
   ·repeat' (first|refine EvC.seq ?_|refine EvC.block ?_|(refine EvC.skip ?_;try simp only[z00])|(refine EvC.ret ?_;try simp only[z05,z04])|(refine EvC.reg ?_;simp (config := { maxSteps := 2000000 }) (disch:=first|omega|rfl) only[sB,Za,reduceCtorEq,ln42,t0,t5,decl hlt])|(refine EvC.drw [([(0,0),(1,0),(2,0),(3,0),(4,0),(5,0),(6,0),(7,0),(8,0)],none)] ?_ ?_;kernel_rfl;simp (config := { maxSteps := 2000000 }) (disch:=first|omega|rfl) only[sD,sB,Za,Zb,reduceCtorEq,ia42,ld3,t0,t1,t5,l1,l2,z3r he,isAlloc,isRead])|(refine EvC.condT ?_ ?_;simp (config := { maxSteps := 2000000 }) (disch:=first|omega|rfl) only[sB,Za];refine z01 ?_))
    refine z03 rfl (by simp only[sB,Za];rfl) ⟨?_,hx'.bump _⟩;rw[decide_eq_false];rintro rfl;exact he rfl
  ·repeat' (first|refine EvC.seq ?_|(refine EvC.exit ?_;try simp only[sB])|(refine EvC.ret ?_)|(refine EvC.reg ?_;simp (config := { maxSteps := 2000000 }) (disch:=first|omega|rfl) only[sB,Za,reduceCtorEq,ln42,t0,t5,decn hlt])|(refine EvC.condF ?_ ?_;simp (config := { maxSteps := 2000000 }) (disch:=first|omega|rfl) only[sB,Za];refine z01 ?_))
   refine z03 rfl (by simp only[sB,Za];rfl) ⟨?_,hx'⟩;rw[decide_eq_true];refine List.ext_getElem? fun j=>?_
   by_cases hj:j < i
   ·exact hc j hj
   ·rw[List.getElem?_eq_none (by omega),List.getElem?_eq_none (by omega)]
 ·exact⟨_,_,0,rfl,rfl,by omega,by omega,(by simp only[sG,reduceCtorEq]),(by simp only[sG,Za,reduceCtorEq]),(by simp only[sB,Za,reduceCtorEq];rfl),HX.refl hw⟩
end Go.Proofs.hq
end

section
namespace Go.Proofs.hq
open Go Go.RowKit Go.Hb
variable {ok:Ok}
set_option maxRecDepth 10000
attribute [local irreducible] LX LG EL STG SOP SGO SGD SAL SRD SEF SEG SLK SCK ES
theorem zgk {H:Heap}(hw:H.wf) (A B C D:Blk):∃H2,(((H.new (some A)).new (some B)).put H.next (some C)).put (H.next+1) (some D)=H2∧HX H H2∧H2.get H.next=some C∧H2.get (H.next+1)=some D∧H2.next=H.next+2∧H2.wf:=by
 obtain⟨H2,rfl,hx,h1,h2,h3,h4⟩:=new2 hw A B;have hy:=(hx.pt (i:=H.next) (Zd _) h1 (some C)).pt (i:=H.next+1) (by omega) (by rw[get_put,if_neg (by omega)];exact h2) (some D);exact⟨_,rfl,hy,by rw[get_put,if_neg (by omega),get_put,if_pos rfl],by rw[get_put,if_pos rfl],rfl,hy.wf⟩
theorem bNeP {H:Heap}{x y:Operand}{a:Addr}:dBin Tryd.prog .neq 27 x y (.pointer (some a)) (.pointer none) H=some (.val (.bool true) H):=by
 simp only[dBin,dnil,isP,nilEq,if_true]
theorem zoh {H:Heap}{a b c d:Value}{l:List Value}:dExt (.tuple ⟨a :: b :: c :: d :: l⟩) 3 H=some (.val d H):=_root_.id rfl
theorem _root_.Go.Hb.RdI.keep {H H':Heap}{L:List Int}{a:Option Addr}{c:Nat}(h:RdI H L a c) (hx:HX H H') (hw:H.wf):RdI H' L a c:=⟨h.len,h.cap,fun i hi=>by obtain⟨b,o,e,l⟩:=h.get i hi;exact⟨b,o,e,hx.load hw l⟩⟩
set_option maxHeartbeats 16000000 in
theorem zae {t t':Tm}{cs cs':List Value}{H:Heap}(r0:RepT H t cs) (r0':RepT H t' cs') (hw:H.wf) :
  EvF Tryd.prog okT 3 [.agg ⟨cs⟩,.agg ⟨cs'⟩] H fun v _=>v=.bool true:=by
 obtain⟨a,c,cells,rfl,-⟩:=r0.six;obtain⟨a',c',cells',rfl,-⟩:=r0'.six;refine EvF.enter rfl Tryd.func3 (by decide) rfl ?_;(repeat refine EvC.seq ?_);refine EvC.reg ?_;simp (config := { maxSteps := 2000000 }) (disch:=first|omega|rfl) only[sB,initTm,dBox,Za,Value.cells,one,reduceCtorEq];obtain⟨H1,e1,hx1,g1,g2,n1,w1⟩:=new2 hw (.row (six t a c) 25) (.row (six t' a' c') 25);simp only[e1];clear e1
 repeat' (first|refine EvC.seq ?_|(refine EvC.reg ?_;simp (config := { maxSteps := 2000000 }) (disch:=first|omega|rfl) only[sB,Za,reduceCtorEq,cl4]))
 refine(zdv w1).mono ?_;rintro v A0 ⟨rfl,k0⟩;have wA:=k0.wf;have gA1:=k0.get w1 g1;have gA2:=k0.get w1 g2;have qA1:=(row6 gA1).2.2.2.2.2.2;have qA2:=(row6 gA2).2.2.2.2.2.2;have hxA:=hx1.trans k0
 repeat' (first|refine EvC.seq ?_|(refine EvC.reg ?_;simp (config := { maxSteps := 2000000 }) (disch:=first|omega|rfl) only[sB,Za,reduceCtorEq,ld25,cl5,qA1,qA2]))
 refine(zn5 (r0.mono hxA hw) (r0'.mono hxA hw) wA).mono ?_;rintro v H2 ⟨hx2,s,x,y,hv⟩;have neA:(H2.next=H2.next+1)=False:=by simp
 have neB:(H2.next+1=H2.next)=False:=by simp
 rcases hv with rfl|⟨rfl,B,σ,hB,hs,hp,rx,ry,hc,hc',hok⟩
 ·(try simp (config := { maxSteps := 2000000 }) (disch:=first|omega|rfl) only[sB,dAlloc,Za,Zb,one,reduceCtorEq,zr29,st29,zoh,neA,neB]);obtain⟨H3,e3,hx3,g7,g8,n3,w3⟩:=zgk hx2.wf (.row [.int .i64 0,.int .i64 0] 29) (.row [.int .i64 0,.int .i64 0] 29) (.row (two x) 29) (.row (two y) 29)
  simp only[e3]
  repeat' (first|refine EvC.seq ?_|(refine EvC.ret ?_;try simp only[z05,z04])|(refine EvC.reg ?_;simp (config := { maxSteps := 2000000 }) (disch:=first|omega|rfl) only[sB,Za,reduceCtorEq,Bool.not_false,bNeP])|(refine EvC.condT ?_ ?_;simp (config := { maxSteps := 2000000 }) (disch:=first|omega|rfl) only[sB,Za,reduceCtorEq];refine z01 ?_))
  exact z03 rfl (by simp only[sG,Za,reduceCtorEq]) rfl
 have w2:=hx2.wf;have hn:=zcn hc;have hn':=zcn hc';have hT:=hp.tok (by omega) (by omega);have hxH2:=hxA.trans hx2;(try simp (config := { maxSteps := 2000000 }) (disch:=first|omega|rfl) only[sB,dAlloc,Za,Zb,one,reduceCtorEq,zr29,st29,zoh,neA,neB]);obtain⟨H3,e3,hx3,g7,g8,n3,w3⟩:=zgk w2 (.row [.int .i64 0,.int .i64 0] 29) (.row [.int .i64 0,.int .i64 0] 29) (.row (two x) 29) (.row (two y) 29);simp only[e3];have hs3:=hs.keep w2 hx3;have hxH3:=hxH2.trans hx3;have q7:=z0s g7;have q8:=z0s g8;refine EvC.frame (fun tm=>tm.get 2=some (.pointer (some ⟨H.next,0,none⟩))∧tm.get 3=some (.pointer (some ⟨H.next+1,0,none⟩))∧tm.get 5=some (.bool true)∧tm.get 6=some (.pointer (some ⟨s,0,none⟩))∧tm.get 7=some (.pointer (some ⟨H2.next,0,none⟩))∧tm.get 8=some (.pointer (some ⟨H2.next+1,0,none⟩))∧tm.get 9=some (.bool true)) ⟨(by simp only[sG,Za,reduceCtorEq]),(by simp only[sG,Za,reduceCtorEq]),(by simp only[sG,Za,reduceCtorEq]),(by simp only[sG,Za,reduceCtorEq]),(by simp only[sG,Za,reduceCtorEq]),(by simp only[sG,Za,reduceCtorEq]),(by simp only[sG,Za,reduceCtorEq])⟩ ?_
 rintro tm ⟨t2,t3,t5,t6,t7,t8,t9⟩;clear e3
 repeat' (first|refine EvC.seq ?_|(refine EvC.skip ?_;try simp only[z00])|(refine EvC.reg ?_;simp (config := { maxSteps := 2000000 }) (disch:=first|omega|rfl) only[sB,Za,ld29,cl6,t6,t7,t8,t9,q7,q8,Bool.not_true])|(refine EvC.condF ?_ ?_;simp (config := { maxSteps := 2000000 }) (disch:=first|omega|rfl) only[sB,Za];refine z01 ?_))
 refine(ze1 hT hs3 w3 hp.wf.lo rx ry hn).mono ?_;rintro v H4 ⟨rfl,hx4⟩;have w4:=hx4.wf;have hxH4:=hxH3.trans hx4;have q1:=(row6 (hx4.get w3 (hx3.get w2 (hx2.get wA gA1)))).2.2.2.2.2.2;have q2:=(row6 (hx4.get w3 (hx3.get w2 (hx2.get wA gA2)))).2.2.2.2.2.2
 repeat' (first|refine EvC.seq ?_|(refine EvC.reg ?_;simp (config := { maxSteps := 2000000 }) (disch:=first|omega|rfl) only[sB,Za,ld25,cl7,t2,t3,q1,q2])|(refine z0n ?_;simp (config := { maxSteps := 2000000 }) (disch:=first|omega|rfl) only[sB,Za]))
 refine(z99 (r0.mono hxH4 hw) (r0'.mono hxH4 hw) w4).mono ?_;rintro v H5 ⟨rfl,hx5⟩;have hcl:chkL [t,t']=0:=by rw[chkL,if_pos hc,chkL,if_pos hc',chkL]
 rw[hcl,if_pos rfl];have w5:=hx5.wf;have hs5:=(hs3.keep w3 hx4).keep w4 hx5;have hxH5:=hxH4.trans hx5;have g7':=hx5.get w4 (hx4.get w3 g7);have q7':=z0s g7'
 repeat' (first|refine EvC.seq ?_|(refine EvC.reg ?_;simp (config := { maxSteps := 2000000 }) (disch:=first|omega|rfl) only[sB,Za,ld29,cl8,t6,t7,q7'])|(refine z0n ?_;simp (config := { maxSteps := 2000000 }) (disch:=first|omega|rfl) only[sB,Za]))
 refine(zn8 w5 hs5 hp (by omega) rx hc (fun v hv=>(hok v hv).1)).mono ?_;rintro v H6 ⟨d,τ,rfl,hs6,hx6,hg,⟨w',k',hw',hk',hp6⟩,rd⟩;have w6:=hx6.wf;have hB0:H.next≤B:=Zp hxA.next hB;have hxH6:=hs5.hx hxH5 hB0 hx6;(try simp (config := { maxSteps := 2000000 }) (disch:=first|omega|rfl) only[sB,dAlloc,Za,Zb,one,zr29,st29]);obtain⟨H7,e7,hx7,g14,n7,w7⟩:=z0k w6 (.row [.int .i64 0,.int .i64 0] 29) (.row (two d) 29);simp only[e7];have hs7:=hs6.keep w6 hx7;have hxH7:=hxH6.trans hx7;have q14:=z0s g14;have hT7:=hp6.tok (by omega) (by omega);have hnr:nd (ren (newN 6 t) t)≤4000:=by rw[zlb _ (Zf _) (z0h.1 hc).2];exact hn
 have hterm:=rd.told hnr
 repeat' (first|refine EvC.seq ?_|(refine EvC.reg ?_;simp (config := { maxSteps := 2000000 }) (disch:=first|omega|rfl) only[sB,Za,ld29,cl9,t6,q14]))
 refine(zdo hT7 hp6.wf.lo hs7 w7).mono ?_;rintro v H8 ⟨cs8,rfl,hrF,hx8⟩;rw[hterm] at hrF ⊢;have hr8:=hrF.rep;obtain⟨a8,c8,rfl,-⟩:=hrF;simp only at hr8 ⊢;(try simp (config := { maxSteps := 2000000 }) (disch:=first|omega|rfl) only[sB,dAlloc,Za,Zb,one,zr25,st25]);obtain⟨H9,e9,hx9,g16,n9,w9⟩:=z0k hx8.wf (.row zero6 25) (.row (six (ren (newN 6 t) t) a8 c8) 25);simp only[e9];have q16:=(row6 g16).2.2.2.2.2.2;have hx79:=hx8.trans hx9;have hxH9:=hxH7.trans hx79;have w9:=hx9.wf;have hs9:=hs7.keep w7 hx79;have hy2:HX H1 H2:=k0.trans hx2;have hy5:=((hy2.trans hx3).trans hx4).trans hx5;have hB1:H1.next≤B:=Zp k0.next hB;have hy9:=((hs5.hx hy5 hB1 hx6).trans hx7).trans hx79;have q1':=(row6 (hy9.get w1 g1)).2.2.2.2.2.2;have r9:=hr8.mono hx9 hx8.wf;have hc8:=zlk (n:=6) hc;have hfl:=(z0h.1 hc).2;have hpl:plain1 (ren (newN 6 t) t)=plain1 t:=zi1 hfl zn6;have nm7:¬Mut H5 s H2.next:=hs.fresh w2 ((hx3.trans hx4).trans hx5) (Zd _);have g7'':=hx79.get w7 (hx7.get w6 (hx6.own w5 nm7 g7'));have rx9:=rx.grow hg hp.wf.lo
 refine EvC.frame (fun tm=>tm.get 2=some (.pointer (some ⟨H.next,0,none⟩))∧tm.get 6=some (.pointer (some ⟨s,0,none⟩))∧tm.get 7=some (.pointer (some ⟨H2.next,0,none⟩))∧tm.get 10=some (.int .i64 (ordT t t'))∧tm.get 11=some (.int .i64 0)∧tm.get 12=some (.int .i64 (ordT t t'))∧tm.get 13=some (.int .i64 0)∧tm.get 15=some (.int .i64 0)∧tm.get 16=some (.pointer (some ⟨H8.next,0,none⟩))∧tm.get 17=some (.int .i64 0)) ⟨(by simp only[sG,Za,t2]),(by simp only[sG,Za,t6]),(by simp only[sG,Za,t7]),(by simp only[sG,Za]),(by simp only[sG,Za]),(by simp only[sG,Za]),(by simp only[sG,Za]),(by simp only[sG,Za]),(by simp only[sG,Za]),(by simp only[sG,Za])⟩ ?_;clear t2 t3 t5 t6 t7 t8 t9 e7 e9;rintro tm ⟨t2,t6,t7,t10,t11,t12,t13,t15,t16,t17⟩
 repeat' (first|refine EvC.seq ?_|(refine EvC.reg ?_;simp (config := { maxSteps := 2000000 }) (disch:=first|omega|rfl) only[sB,Za,ld25,cl10,t2,t16,q16,q1']))
 refine(zhx r9 (r0.mono (hx1.trans hy9) hw) w9).mono ?_;rintro v H10 ⟨rfl,hx10⟩;have hcl9:chkL [ren (newN 6 t) t,t]=0:=by rw[chkL,if_pos hc8,chkL,if_pos hc,chkL]
 rw[hcl9,if_pos rfl,hpl,zrb rfl];have w10:=hx10.wf;have hs10:=hs9.keep w9 hx10;have q7'':=z0s (hx10.get w9 g7'')
 repeat' (first|refine EvC.seq ?_|(refine EvC.reg ?_;simp (config := { maxSteps := 2000000 }) (disch:=first|omega|rfl) only[sB,Za,ld29,cl11,t6,t7,q7''])|(refine z0n ?_;simp (config := { maxSteps := 2000000 }) (disch:=first|omega|rfl) only[sB,Za]))
 refine(zn9 w10 hs10 hp6.wf.lo hT7 rx9 hc).mono ?_;rintro v H11 ⟨u,rfl,hx11,hI⟩;obtain⟨ua,uc,rfl,hrd,-⟩:=hI.rd;have w11:=hx11.wf;have hy11:=(hy9.trans hx10).trans hx11;have q1'':=(row6 (hy11.get w1 g1)).2.2.2.2.2.2;obtain⟨H12,e12,hx12,g12,n12,w12⟩:=new1 w11 (.row (six t a c) 25)
 repeat' (first|refine EvC.seq ?_|(refine EvC.reg ?_;simp (config := { maxSteps := 2000000 }) (disch:=first|omega|rfl) only[sB,Za,Zb,Value.cells,one,layC,ld25,z5b,cl12,t2,q1'',e12])|(refine z0n ?_;simp (config := { maxSteps := 2000000 }) (disch:=first|omega|rfl) only[sB,Za]))
 refine(z2i (r0.mono ((hx1.trans hy11).trans hx12) hw) g12 w12).mono ?_;rintro v H13 ⟨u,rfl,hI',hx13⟩;rw[if_pos hc] at hI';rw[hc];obtain⟨ua',uc',rfl,hrd',-⟩:=hI'.rd;have w13:=hx13.wf;have hrd13:RdI H13 (uniq (occ t)) ua uc:=hrd.keep (hx12.trans hx13) w11
 repeat' (first|refine EvC.seq ?_|(refine EvC.reg ?_;simp (config := { maxSteps := 2000000 }) (disch:=first|omega|rfl) only[sB,Za,cl13,t10,t11,t12,t13,t15,t17,z13 rfl])|(refine z0n ?_;simp (config := { maxSteps := 2000000 }) (disch:=first|omega|rfl) only[sB,Za]))
 refine(ze7 hrd13 hrd' w13).mono ?_;rintro v H14 ⟨rfl,hx14⟩;rw[decide_eq_true rfl]
 repeat' (first|(refine EvC.ret ?_))
 exact z03 rfl (by simp only[sG,Za]) rfl
end Go.Proofs.hq
end

section
namespace Go.Hb
open Go Go.RowKit
section
variable {H:Type}{enc:TypeId × Value→H}{P:Program}{W:World}{sp:Nat→Bool}{fuel:Nat}{t e:TypeId}{cs:List Value}{d:DataW H}{ps:List MemPlace}
theorem zoi {k:IntKind}{n:Int}:ab P W (.int k n)=.int k n:=rfl
theorem zco {s:ByteArray}:ab P W (.string s)=.string s:=rfl
theorem zaf {k:IntKind}(ht:P.underlying t=some (.int k)) (h:DataW.trod enc P W 0 sp true fuel t cs=some (d,ps)):∃n,cs=[.int k n]∧(Lit.int k n).wf=true:=by
 cases fuel with
 |zero=>simp [DataW.trod] at h
 |succ m =>
  unfold DataW.trod at h;rw[ht] at h;split at h<;>simp_all
theorem z8d (ht:P.underlying t=some .string) (h:DataW.trod enc P W 0 sp true fuel t cs=some (d,ps)):∃s:ByteArray,cs=[.string s]∧s.size≤maxLen:=by
 cases fuel with
 |zero=>simp [DataW.trod] at h
 |succ m =>
  unfold DataW.trod at h;rw[ht] at h;split at h<;>simp_all
theorem zi2 (ht:P.underlying t=some (.slice e)) (h:DataW.trod enc P W 0 sp true fuel t cs=some (d,ps)) :
  cs=[.slice none 0 0]∨∃a len cap m,fuel=m+1∧cs=[.slice (some a) len cap]∧len≤cap∧cap≤maxLen ∧
   ∀i,i < len→∃es d' ps',W.cells? 0 (a.add (i*P.cellsOf e)) (P.cellsOf e)=some es∧DataW.trod enc P W 0 sp true m e es=some (d',ps'):=by
 cases fuel with
 |zero=>simp [DataW.trod] at h
 |succ m =>
  unfold DataW.trod at h;rw[ht] at h;split at h<;>simp_all
  obtain⟨⟨hl,hc⟩,h⟩:=h;simp only[Option.bind_eq_some_iff,Option.map_eq_some_iff] at h;obtain⟨elems,he,_⟩:=h;refine⟨_,_,_,⟨rfl,rfl,rfl⟩,hl,hc,fun i hi=>?_⟩;have hlen:=mapM_some_length he;have:=mapM_some_get he i i (by simp [hi]);rw[Zc (by rw[hlen];simpa using hi)] at this;simp only[Option.bind_eq_some_iff] at this;obtain⟨es,h1,h2⟩:=this;exact⟨es,h1,_,_,h2⟩
theorem ze8 {fs:Array Field}(ht:P.underlying t=some (.struct fs)) (h:DataW.trod enc P W 0 sp true fuel t cs=some (d,ps)) :
  ∃m,fuel=m+1∧cs.length=P.cellsOf t∧∀(i:Nat) (f:Field),fs[i]?=some f→∃d' ps',DataW.trod enc P W 0 sp true m f.type ((cs.drop f.offset).take (P.cellsOf f.type))=some (d',ps'):=by
 cases fuel with
 |zero=>simp [DataW.trod] at h
 |succ m =>
  unfold DataW.trod at h;rw[ht] at h;split at h<;>simp_all
  subst_vars
  obtain⟨hl,xs,hx,_⟩:=h;intro i f hf;have hlen:=mapM_some_length hx;have:=mapM_some_get hx i f (by simpa using hf);have hi:=(Array.getElem?_eq_some_iff.1 hf).1;rw[Zc (by rw[hlen];simpa using hi)] at this;exact⟨_,_,this⟩
theorem zq8 (a:Addr) (i:Nat):(a.add i).block=a.block:=by unfold Addr.add;split<;>rfl
theorem zcp {a:Addr}{s i:Nat}{es:List Value}(hs:0 < s) (h:W.cells? 0 (a.add (i*s)) s=some es) (hsp:a.spot=none):(heapW P W).load ⟨a.block,a.off+i*s,none⟩ s=some (es.map (ab P W))∧es.length=s∧a.block < W.heap.size:=by
 obtain⟨_,hl,hc⟩:=World.cells?_some h;obtain⟨b,o,sp⟩:=a;obtain rfl:sp=none:=hsp;have hb:=World.cells?_block h hs;rw[zq8] at hb;refine⟨zh1 hs hl fun j v hj=>?_,hl,hb⟩;have hjl:j < es.length:=(List.getElem?_eq_some_iff.1 hj).1;have:=hc j (by omega);rw[add0,add0] at this;rw[this];exact hj
theorem zi3 {a:Addr}{s:Nat}{es:List Value}(hs:0 < s) (h:W.cells? 0 (a.add (0*s)) s=some es):a.spot=none:=by
 obtain⟨_,hl,hc⟩:=World.cells?_some h;have e0:∀a:Addr,a.add 0=a:=fun a=>by unfold Addr.add;simp
 have:=hc 0 hs;rw[Nat.zero_mul,e0,e0,Zc (by omega)] at this;unfold World.cell? at this;split at this
 ·split at this
  ·cases this
  ·rename_i hn;simpa using hn
 ·cases this
end
section
variable {H:Type}{enc:TypeId × Value→H}{P:Program}{W:World}{sp:Nat→Bool}
structure TermTypes (P:Program) (tT tS tI tG tU:TypeId):Prop where
 fields:∃fs:Array Field,P.underlying tT=some (.struct fs)∧(fs.toList.map fun f=>(f.offset,f.type))=[(0,tI),(1,tG),(2,tG),(3,tU),(4,tI),(5,tS)]
 slice:P.underlying tS=some (.slice tT)
 int:P.underlying tI=some (.int .i64)
 str:P.underlying tG=some .string
 u64:P.underlying tU=some (.int .u64)
 cT:P.cellsOf tT=6
 cS:P.cellsOf tS=1
 cI:P.cellsOf tI=1
 cG:P.cellsOf tG=1
 cU:P.cellsOf tU=1
theorem z9e {n:Int}(h:(Lit.int .i64 n).wf=true):i64 n:=by
 unfold i64;unfold Lit.wf at h;simp [IntKind.min,IntKind.max,IntKind.bits,IntKind.signed] at h;exact h
theorem zlm {n:Int}(h:(Lit.int .u64 n).wf=true):u64 n:=by
 unfold u64;unfold Lit.wf at h;simp [IntKind.min,IntKind.max,IntKind.bits,IntKind.signed] at h;exact h
theorem z3n {cs:List Value}{o:Nat}{v:Value}(h:(cs.drop o).take 1=[v]):cs[o]?=some v:=by
 have:((cs.drop o).take 1)[0]?=some v:=by rw[h];rfl
 simpa [ZH,List.getElem?_drop] using this
theorem zgl {cs:List Value}{a b c d e f:Value}(hl:cs.length=6) (h0:cs[0]?=some a) (h1:cs[1]?=some b) (h2:cs[2]?=some c) (h3:cs[3]?=some d) (h4:cs[4]?=some e) (h5:cs[5]?=some f):cs=[a,b,c,d,e,f]:=by
 match cs,hl with
 |[_,_,_,_,_,_],_=>simp at h0 h1 h2 h3 h4 h5;simp [h0,h1,h2,h3,h4,h5]
theorem z8e {tT tS tI tG tU:TypeId}(T:TermTypes P tT tS tI tG tU):∀(fuel:Nat) (cs:List Value) (d:DataW H) (ps:List MemPlace),DataW.trod enc P W 0 sp true fuel tT cs=some (d,ps)→∃t,RepT (heapW P W) t (cs.map (ab P W)):=by
 intro fuel
 induction fuel using Nat.strongRecOn with
 |_ fuel ih =>
 intro cs d ps h;obtain⟨fs,hf,hfs⟩:=T.fields;obtain⟨m,rfl,hl,hall⟩:=ze8 hf h;rw[T.cT] at hl;have fld:∀i o u,((fs.toList.map fun f=>(f.offset,f.type)))[i]?=some (o,u)→P.cellsOf u=1→∃d' ps',DataW.trod enc P W 0 sp true m u ((cs.drop o).take 1)=some (d',ps'):=fun i o u hi hu=>by
  rw[Zl,Option.map_eq_some_iff] at hi;obtain⟨f,hf1,hf2⟩:=hi;obtain⟨d',ps',hd⟩:=hall i f (by simpa using hf1);cases hf2;rw[hu] at hd;exact⟨d',ps',hd⟩
 rw[hfs] at fld;obtain⟨d0,p0,t0⟩:=fld 0 0 tI rfl T.cI;obtain⟨d1,p1,t1⟩:=fld 1 1 tG rfl T.cG;obtain⟨d2,p2,t2⟩:=fld 2 2 tG rfl T.cG;obtain⟨d3,p3,t3⟩:=fld 3 3 tU rfl T.cU;obtain⟨d4,p4,t4⟩:=fld 4 4 tI rfl T.cI;obtain⟨d5,p5,t5⟩:=fld 5 5 tS rfl T.cS;obtain⟨k,h0,w0⟩:=zaf T.int t0;obtain⟨s,h1,w1⟩:=z8d T.str t1;obtain⟨u,h2,w2⟩:=z8d T.str t2;obtain⟨b,h3,w3⟩:=zaf T.u64 t3;obtain⟨v,h4,w4⟩:=zaf T.int t4;rcases zi2 T.slice t5 with h5|⟨a,n,c,m',rfl,h5,hnc,hcm,hel⟩
 ·rw[zgl hl (z3n h0) (z3n h1) (z3n h2) (z3n h3) (z3n h4) (z3n h5)];exact⟨.mk k s u b v [],.mk k s u b v [] none 0 (fun _=>[]) (z9e w0) w1 w2 (zlm w3) (z9e w4) (ZA _) (Zd _) (ZA _) (fun _=>⟨rfl,rfl⟩) (fun i ad hi=>by simp at hi) (fun i t ht=>by simp at ht)⟩
 ·rw[zgl hl (z3n h0) (z3n h1) (z3n h2) (z3n h3) (z3n h4) (z3n h5)];rw[T.cT] at hel;have hsp:0 < n→a.spot=none:=fun hn=>by
   obtain⟨es,_,_,he,_⟩:=hel 0 hn;exact zi3 (by omega) he
  have key:∀i,∃t cells,i < n→(heapW P W).load ⟨a.block,a.off+i*6,none⟩ 6=some cells∧RepT (heapW P W) t cells:=fun i=>by
   by_cases hi:i < n
   ·obtain⟨es,d',ps',he,ht⟩:=hel i hi;obtain⟨t,hr⟩:=ih m' (by omega) es d' ps' ht;exact⟨t,_,fun _=>⟨(zcp (by omega) he (hsp (by omega))).1,hr⟩⟩
   ·exact⟨.mk 0 s u 0 0 [],[],fun h=>absurd h hi⟩
  obtain⟨T',hT'⟩:=Classical.axiomOfChoice key;obtain⟨C,hC⟩:=Classical.axiomOfChoice hT';have hlen:((Zh n).map T').length=n:=by simp
  refine⟨.mk k s u b v ((Zh n).map T'),?_⟩;by_cases hn:0 < n
  ·have hbl:a.block < W.heap.size:=by
    obtain⟨es,_,_,he,_⟩:=hel 0 hn;exact(zcp (P:=P) (by omega) he (hsp hn)).2.2
   have hab:ab P W (.slice (some a) n c)=.slice (some a) ((Zh n).map T').length c:=by
    unfold ab;rw[hlen];simp only;rw[if_pos ⟨hnc,hcm⟩,if_pos ⟨hsp hn,hbl⟩]
   simp only[List.map_cons,List.map_nil,zoi,zco,hab];refine .mk k s u b v _ (some a) c C (z9e w0) w1 w2 (zlm w3) (z9e w4) (by rw[hlen];omega) (by rw[hlen];exact hnc) hcm (fun h=>by cases h) (fun i ad hi ha=>?_) (fun i t ht=>?_)
   ·cases ha;rw[hlen] at hi;exact⟨hsp hn,(hC i hi).1⟩
   ·rw[Zl,Option.map_eq_some_iff] at ht;obtain⟨j,hj,rfl⟩:=ht;have hi:i < n:=by have:=(List.getElem?_eq_some_iff.1 hj).1;simpa using this
    rw[List.getElem?_range hi] at hj;cases hj;exact(hC i hi).2
  ·have hn0:n=0:=by omega
   subst hn0;obtain⟨a',hab⟩:∃a',ab P W (.slice (some a) 0 c)=.slice (some a') 0 c:=by
    unfold ab;simp only;rw[if_pos ⟨hnc,hcm⟩];split
    ·exact⟨_,rfl⟩
    ·exact⟨_,rfl⟩
   simp only[List.map_cons,List.map_nil,zoi,zco,hab,List.range_zero];exact .mk k s u b v [] (some a') c C (z9e w0) w1 w2 (zlm w3) (z9e w4) (ZA _) hnc hcm (fun h=>by cases h) (fun i ad hi=>by simp at hi) (fun i t ht=>by simp at ht)
end
end Go.Hb
end
