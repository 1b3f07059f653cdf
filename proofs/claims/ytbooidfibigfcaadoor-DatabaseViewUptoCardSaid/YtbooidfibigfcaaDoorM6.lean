import Derived.Test.YtbooidfibigfcaaDoorM3
import Derived.Test.YtbooidfibigfcaaDoorM5
import Derived.Test.YtbooidfibigfcaaDoorM4
/- Lemmas on the program's own code, towards the laws of this folder, part 6. Conditions: as each lemma says. -/
open Bool renaming and_eq_true -> Zj, false_eq_true -> Ze, not_false -> ZH, not_true -> Zq
open ByteArray renaming empty -> Zd
open List renaming drop_eq_getElem_cons -> ZI, ext_getElem? -> ZN, getElem?_append_left -> ZC, getElem?_eq_getElem -> Zc, getElem?_eq_none -> ZA, getElem?_map -> Zv, getElem?_set -> ZD, getElem?_take -> ZE, getElem_mem -> Zz, getElem_of_mem -> ZK, length_append -> Zy, length_cons -> ZJ, length_map -> Zt, length_take -> Zp, map_append -> ZB, map_cons -> Zx, mem_of_getElem? -> Zr, take_of_length_le -> Zl
open Nat renaming beq_eq -> Zs, le_refl -> Zf, le_trans -> Zk, lt_of_lt_of_le -> Zh, lt_succ_self -> Zg, reduceAdd -> Zb, reduceEqDiff -> Za, reduceLeDiff -> Zn, zero_add -> ZF, zero_le -> Zo, zero_mul -> ZL
open Option renaming bind_some -> Zw
section
namespace Go.Proofs.hq
open Go Go.RowKit Go.Hb
variable {ok:Ok}
set_option maxRecDepth 10000
attribute [local irreducible] LX LG EL STG SOP SGO SGD SAL SRD SEF SEG SLK SCK ES
def RdC (H:Heap) (c:Cls) (cs:List Value):Prop:=∃ha hc ta tc a k,cs=fift c.head ha hc c.body.kind c.body.term ta tc a c.body.sub.length k c.vars/\RepT H c.head (six c.head ha hc)/\RepB H c.body (eightT c.body.kind c.body.term ta tc a c.body.sub.length k)
theorem RepC.rd {H:Heap}{S:Nat->Prop}{c:Cls}{cs:List Value}(h:RepC H S c cs):RdC H c cs:=by
 obtain⟨ha,hc,ta,tc,a,k,h1,h2,h3⟩:=h;exact⟨ha,hc,ta,tc,a,k,h1,h2.rep,h3.rep⟩
theorem RdC.mono {H H':Heap}{c:Cls}{cs:List Value}(h:RdC H c cs) (hx:HX H H') (hw:H.wf):RdC H' c cs:=by
 obtain⟨ha,hc,ta,tc,a,k,h1,h2,h3⟩:=h;exact⟨ha,hc,ta,tc,a,k,h1,h2.mono hx hw,h3.mono hx hw⟩
noncomputable def eqB (b b':Bdy):Bool:=@decide (b=b') (Classical.propDecidable _)
theorem zcb {t t':Bdy}(h:t=t'):eqB t t'=true:=by unfold eqB;exact @decide_eq_true _ (Classical.propDecidable _) h
theorem z79 {t t':Bdy}(h:t≠t'):eqB t t'=false:=by unfold eqB;exact @decide_eq_false _ (Classical.propDecidable _) h
theorem zmy {b b':Bdy}(h1:b.kind=b'.kind) (h2:b.term=b'.term) (h3:b.sub=b'.sub):b=b':=by
 obtain⟨k,t,l⟩:=b;obtain⟨k',t',l'⟩:=b';obtain rfl:k=k':=h1;obtain rfl:t=t':=h2;obtain rfl:l=l':=h3;rfl
noncomputable def eqC (b b':Cls):Bool:=@decide (b=b') (Classical.propDecidable _)
theorem zup {t t':Cls}(h:t=t'):eqC t t'=true:=by unfold eqC;exact @decide_eq_true _ (Classical.propDecidable _) h
theorem zsu {t t':Cls}(h:t≠t'):eqC t t'=false:=by unfold eqC;exact @decide_eq_false _ (Classical.propDecidable _) h
theorem zmz {b b':Cls}(h1:b.head=b'.head) (h2:b.body=b'.body) (h3:b.vars=b'.vars):b=b':=by
 obtain⟨k,t,l⟩:=b;obtain⟨k',t',l'⟩:=b';obtain rfl:k=k':=h1;obtain rfl:t=t':=h2;obtain rfl:l=l':=h3;rfl
set_option maxHeartbeats 4000000 in
theorem zef {m:Nat}:∀{t t':Tm}{cs cs':List Value}{H:Heap},SizeOf.sizeOf t < m->RepT H t cs->RepT H t' cs'->H.wf ->
  EvF Tryd.prog okT 78 [.agg ⟨cs⟩,.agg ⟨cs'⟩] H fun v H'=>v=.bool (eqT t t')/\HX H H':=by
 induction m with
 |zero=>intro t t' cs cs' H h;omega
 |succ m ih =>
 intro t t' cs cs' H hsz r r' hw;obtain⟨a,c,cells,rfl,b1,b2,b3,b4,b5,rl⟩:=r.six;obtain⟨a',c',cells',rfl,b1',b2',b3',b4',b5',rl'⟩:=r'.six;refine EvF.enter rfl Tryd.func78 (by decide) rfl ?_;(repeat refine qZa ?_);refine qZb ?_;simp (config:=qZc) (disch:=first|omega|rfl) only[sB,initTm,dBox,Za,Value.cells,one,reduceCtorEq];obtain⟨H2,e2,hx2,gp,gq,hnx,hw2⟩:=new2 hw (.row (six t a c) 26) (.row (six t' a' c') 26);simp only[e2];have q1:=row6 gp;have q2:=row6 gq;clear e2;by_cases k1:t.kind=t'.kind;rotate_left
 ·repeat' (first|refine qZa ?_|(refine qZf ?_;try simp only[z06,z01])|(refine qZb ?_;simp (config:=qZc) (disch:=first|omega|rfl) only[sB,Za,reduceCtorEq,z0o,ld3,z1y k1,q1,q2])|(refine qZd ?_ ?_;simp (config:=qZc) (disch:=first|omega|rfl) only[sB,Za,reduceCtorEq];refine z05 ?_))
  exact z04 rfl (by simp only[sB,Za,reduceCtorEq];rfl) ⟨by rw[z3u (fun h=>k1 (by rw[h]))],hx2⟩
 by_cases k2:t.name=t'.name;rotate_left
 ·repeat' (first|refine qZa ?_|(refine qZf ?_;try simp only[z06,z01])|(refine qZb ?_;simp (config:=qZc) (disch:=first|omega|rfl) only[sB,Za,reduceCtorEq,z0o,ld3,z1t,ld9,z0x k1,q1,q2,z19,zah k2,ZH,Ze])|(refine qZd ?_ ?_;simp (config:=qZc) (disch:=first|omega|rfl) only[sB,Za,reduceCtorEq];refine z05 ?_))
  exact z04 rfl (by simp only[sB,Za,reduceCtorEq];rfl) ⟨by rw[z3u (fun h=>k2 (by rw[h]))],hx2⟩
 by_cases k3:t.num=t'.num;rotate_left
 ·repeat' (first|refine qZa ?_|(refine qZf ?_;try simp only[z06,z01])|(refine qZb ?_;simp (config:=qZc) (disch:=first|omega|rfl) only[sB,Za,reduceCtorEq,z0o,ld3,z1t,ld9,z5g,z0x k1,q1,q2,z19,z2b k2,zah k3,ZH,Zq,Ze])|(refine qZd ?_ ?_;simp (config:=qZc) (disch:=first|omega|rfl) only[sB,Za,reduceCtorEq];refine z05 ?_))
  exact z04 rfl (by simp only[sB,Za,reduceCtorEq];rfl) ⟨by rw[z3u (fun h=>k3 (by rw[h]))],hx2⟩
 by_cases k4:t.bits=t'.bits;rotate_left
 ·repeat' (first|refine qZa ?_|(refine qZf ?_;try simp only[z06,z01])|(refine qZb ?_;simp (config:=qZc) (disch:=first|omega|rfl) only[sB,Za,reduceCtorEq,z0o,ld3,z1t,ld9,z5g,z7j,ld24,z0x k1,q1,q2,z19,z2b k2,z2b k3,z1y k4,Zq,Ze])|(refine qZd ?_ ?_;simp (config:=qZc) (disch:=first|omega|rfl) only[sB,Za,reduceCtorEq];refine z05 ?_))
  exact z04 rfl (by simp only[sB,Za,reduceCtorEq];rfl) ⟨by rw[z3u (fun h=>k4 (by rw[h]))],hx2⟩
 by_cases k5:t.var=t'.var;rotate_left
 ·repeat' (first|refine qZa ?_|(refine qZf ?_;try simp only[z06,z01])|(refine qZb ?_;simp (config:=qZc) (disch:=first|omega|rfl) only[sB,Za,reduceCtorEq,z0o,ld3,z1t,ld9,z5g,z7j,ld24,z67,z0x k1,q1,q2,z19,z2b k2,z2b k3,z0x k4,z1y k5,Zq,Ze])|(refine qZd ?_ ?_;simp (config:=qZc) (disch:=first|omega|rfl) only[sB,Za,reduceCtorEq];refine z05 ?_))
  exact z04 rfl (by simp only[sB,Za,reduceCtorEq];rfl) ⟨by rw[z3u (fun h=>k5 (by rw[h]))],hx2⟩
 by_cases k6:(t.args.length:Int)=t'.args.length;rotate_left
 ·repeat' (first|refine qZa ?_|(refine qZf ?_;try simp only[z06,z01])|(refine qZb ?_;simp (config:=qZc) (disch:=first|omega|rfl) only[sB,Za,reduceCtorEq,z0o,ld3,z1t,ld9,z5g,z7j,ld24,z67,z10,ld22,ln22,z0x k1,q1,q2,z19,z2b k2,z2b k3,z0x k4,z0x k5,z1y k6,Zq,Ze])|(refine qZd ?_ ?_;simp (config:=qZc) (disch:=first|omega|rfl) only[sB,Za,reduceCtorEq];refine z05 ?_))
  exact z04 rfl (by simp only[sB,Za,reduceCtorEq];rfl) ⟨by rw[z3u (fun h=>k6 (by rw[h]))],hx2⟩
 repeat' (first|refine qZa ?_|refine qZg ?_|(refine qZe ?_;try simp only[z00])|(refine qZb ?_;simp (config:=qZc) (disch:=first|omega|rfl) only[sB,Za,reduceCtorEq,z0o,ld3,z1t,ld9,z5g,z7j,ld24,z67,z10,ld22,ln22,z0x k1,q1,q2,z19,z2b k2,z2b k3,z0x k4,z0x k5,z0x k6,Zq,Ze])|(refine qZm ?_ ?_;simp (config:=qZc) (disch:=first|omega|rfl) only[sB,Za,reduceCtorEq];refine z05 ?_))
 have hlen:t.args.length=t'.args.length:=by omega
 have hm:=rl.max;refine qZk (fun k st=>∃tm H' i,st=⟨tm,[],H'⟩/\k=t.args.length - i/\i<=t.args.length/\(∀j,j < i->t.args[j]?=t'.args[j]?) /\
   tm.get 2=some (.pointer (some ⟨H.next,0,none⟩))/\tm.get 3=some (.pointer (some ⟨H.next+1,0,none⟩))/\tm.get 50=some (.int .i64 t.args.length)/\tm.get 51=some (.int .i64 (i:Nat)) /\
   H'.get H.next=some (.row (six t a c) 26)/\H'.get (H.next+1)=some (.row (six t' a' c') 26)/\HX H H') ?_ t.args.length _ ?_
 ·rintro k st ⟨tm,H',i,rfl,rfl,hi,hc,t2,t3,t50,t51,gp',gq',hx'⟩;have q1:=row6 gp';have q2:=row6 gq';by_cases hlt:i < t.args.length
  ·have hlt':i < t'.args.length:=by omega
   obtain⟨b,o,a1,c1,rfl,hld,hr1⟩:=rl.el hlt;obtain⟨b',o',a2,c2,rfl,hld',hr2⟩:=rl'.el hlt';have hld1:=hx'.load hw hld;have hld2:=hx'.load hw hld'
   repeat' (first|refine qZa ?_|refine qZg ?_|(refine qZe ?_;try simp only[z00])|(refine qZb ?_;simp (config:=qZc) (disch:=first|omega|rfl) only[sB,Za,t50,t51,decl hlt])|(refine qZj [([(0,0),(1,0),(2,0),(3,0),(4,0),(5,0),(6,0),(7,0),(8,0),(9,0)],some 10),([(11,1)],none)] ?_ ?_;kernel_rfl;simp (config:=qZc) (disch:=first|omega|rfl) only[sD,sB,Za,Zb,reduceCtorEq,z10,ld22,ia22,ld26,cl78,t2,t3,q1,q2,hld1,hld2,isAlloc,isRead])|(refine qZd ?_ ?_;simp (config:=qZc) (disch:=first|omega|rfl) only[sB];refine z05 ?_))
   have hb:=hx'.bump 12;have hs:=z23 (Zc hlt);refine(ih (t:=t.args[i]) (t':=t'.args[i]) (by omega) (hr1.mono hb hw) (hr2.mono hb hw) hb.wf).mono ?_;rintro v H4 ⟨rfl,hx4⟩;have hx5:=hb.trans hx4;by_cases he:t.args[i]=t'.args[i]
   ·repeat' (first|(refine qZe ?_;try simp only[sA])|(refine qZb ?_;simp (config:=qZc) (disch:=first|omega|rfl) only[sB,Za,t51,z0d])|(refine z0q ?_;simp (config:=qZc) (disch:=first|omega|rfl) only[sD,sB,Za,z73 he,Zq,isAlloc,isRead])|(refine qZm ?_ ?_;simp (config:=qZc) (disch:=first|omega|rfl) only[sB,Za];refine z05 ?_))
    refine⟨t.args.length - (i+1),by omega,_,_,i+1,rfl,rfl,by omega,fun j hj=>?_,(by simp only[sG,Za,t2]),(by simp only[sG,Za,t3]),(by simp only[sG,Za,t50]),(by simp only[sB,Za];rfl),hx4.get hb.wf gp',hx4.get hb.wf gq',hx5⟩;by_cases hji:j=i
    ·subst hji;rw[Zc hlt,Zc hlt',he]
    ·exact hc j (by omega)
   ·repeat' (first|refine qZa ?_|(refine qZf ?_;try simp only[z06,z01])|(refine qZb ?_;simp (config:=qZc) (disch:=first|omega|rfl) only[sA])|(refine z0q ?_;simp (config:=qZc) (disch:=first|omega|rfl) only[sD,sB,Za,z3u he,ZH,isAlloc,isRead])|(refine qZd ?_ ?_;simp (config:=qZc) (disch:=first|omega|rfl) only[sB,Za];refine z05 ?_))
    refine z04 rfl (by simp only[sB,Za];rfl) ⟨?_,hx5⟩;rw[z3u];rintro rfl;exact he rfl
  ·repeat' (first|refine qZa ?_|(refine qZi ?_;try simp only[sB])|(refine qZf ?_)|(refine qZb ?_;simp (config:=qZc) (disch:=first|omega|rfl) only[sA,t50,t51,decn hlt])|(refine qZm ?_ ?_;simp (config:=qZc) (disch:=first|omega|rfl) only[sB];refine z05 ?_))
   refine z04 rfl (by simp only[sB,Za];rfl) ⟨?_,hx'⟩;rw[z73];refine zqp k1 k2 k3 k4 k5 (ZN fun j=>?_);by_cases hj:j < i
   ·exact hc j hj
   ·rw[ZA (by omega),ZA (by omega)]
 ·exact⟨_,_,0,rfl,rfl,by omega,by omega,(by simp only[sG,Za,reduceCtorEq]),(by simp only[sG,Za,reduceCtorEq]),(by simp only[sG,Za,reduceCtorEq]),(by simp only[sB,Za,reduceCtorEq];rfl),gp,gq,hx2⟩
set_option maxHeartbeats 8000000 in
theorem z6o {m:Nat}:∀{t t':Bdy}{cs cs':List Value}{H:Heap},SizeOf.sizeOf t < m->RepB H t cs->RepB H t' cs'->H.wf ->
  EvF Tryd.prog okT 79 [.agg ⟨cs⟩,.agg ⟨cs'⟩] H fun v H'=>v=.bool (eqB t t')/\HX H H':=by
 induction m with
 |zero=>intro t t' cs cs' H h;omega
 |succ m ih =>
 intro t t' cs cs' H hsz r r' hw;obtain⟨ts,a,c,cells,rfl,hk,rt,rl⟩:=r.inv;obtain⟨ts',a',c',cells',rfl,-,rt',rl'⟩:=r'.inv;obtain⟨ta,tc,cellst,rfl,-⟩:=rt.inv;obtain⟨ta',tc',cellst',rfl,-⟩:=rt'.inv;show EvF Tryd.prog okT 79 [.agg ⟨eightT t.kind t.term ta tc a t.sub.length c⟩,.agg ⟨eightT t'.kind t'.term ta' tc' a' t'.sub.length c'⟩] H _;refine EvF.enter rfl Tryd.func79 (by decide) rfl ?_;(repeat refine qZa ?_);refine qZb ?_;simp (config:=qZc) (disch:=first|omega|rfl) only[sB,initTm,dBox,Za,Value.cells,one,reduceCtorEq];obtain⟨H2,e2,hx2,gp,gq,hnx,hw2⟩:=new2 hw (.row (eightT t.kind t.term ta tc a t.sub.length c) 53) (.row (eightT t'.kind t'.term ta' tc' a' t'.sub.length c') 53);simp only[e2];have q1:=row8 gp;have q2:=row8 gq;clear e2;by_cases k1:t.kind=t'.kind;rotate_left
 ·repeat' (first|refine qZa ?_|(refine qZf ?_;try simp only[z06,z01])|(refine qZb ?_;simp (config:=qZc) (disch:=first|omega|rfl) only[sB,Za,reduceCtorEq,z1j,ld3,z1y k1,q1,q2])|(refine qZd ?_ ?_;simp (config:=qZc) (disch:=first|omega|rfl) only[sB,Za,reduceCtorEq];refine z05 ?_))
  exact z04 rfl (by simp only[sB,Za,reduceCtorEq];rfl) ⟨by rw[z79 (fun h=>k1 (by rw[h]))],hx2⟩
 (repeat refine qZa ?_);refine qZb ?_;simp (config:=qZc) (disch:=first|omega|rfl) only[sB,Za,reduceCtorEq,z1j,ld3,z8u,ld26,cl78,q1,q2,z0x k1];refine(zef (Zg _) (rt.mono hx2 hw) (rt'.mono hx2 hw) hw2).mono ?_;rintro v H3 ⟨rfl,hx3⟩;have gp3:=hx3.get hw2 gp;have gq3:=hx3.get hw2 gq;have q1:=row8 gp3;have q2:=row8 gq3;have hx:=hx2.trans hx3;by_cases k2:t.term=t'.term;rotate_left
 ·repeat' (first|refine qZa ?_|(refine qZf ?_;try simp only[z06,z01])|(refine qZb ?_;simp (config:=qZc) (disch:=first|omega|rfl) only[sA])|(refine z0n ?_;simp (config:=qZc) (disch:=first|omega|rfl) only[sB,Za,reduceCtorEq,z3u k2,ZH])|(refine qZd ?_ ?_;simp (config:=qZc) (disch:=first|omega|rfl) only[sB,Za,reduceCtorEq];refine z05 ?_))
  exact z04 rfl (by simp only[sB,Za,reduceCtorEq];rfl) ⟨by rw[z79 (fun h=>k2 (by rw[h]))],hx⟩
 by_cases k3:(t.sub.length:Int)=t'.sub.length;rotate_left
 ·repeat' (first|refine qZa ?_|(refine qZf ?_;try simp only[z06,z01])|(refine qZb ?_;simp (config:=qZc) (disch:=first|omega|rfl) only[sA])|(refine z0n ?_;simp (config:=qZc) (disch:=first|omega|rfl) only[sB,Za,reduceCtorEq,z3e,ld51,ln51,z73 k2,q1,q2,z1y k3,Zq,Ze])|(refine qZd ?_ ?_;simp (config:=qZc) (disch:=first|omega|rfl) only[sB,Za,reduceCtorEq];refine z05 ?_))
  exact z04 rfl (by simp only[sB,Za,reduceCtorEq];rfl) ⟨by rw[z79 (fun h=>k3 (by rw[h]))],hx⟩
 have hlen:t.sub.length=t'.sub.length:=by omega
 have hm:=rl.cap;have hl:=rl.len;have hmx:t.sub.length<=9223372036854775807:=Zk hl (Zk hm (by decide))
 repeat' (first|refine qZa ?_|refine qZg ?_|(refine qZe ?_;try simp only[z00])|(refine qZb ?_;simp (config:=qZc) (disch:=first|omega|rfl) only[sB,Za,reduceCtorEq,z3e,ld51,ln51,q1])|(refine z0n ?_;simp (config:=qZc) (disch:=first|omega|rfl) only[sB,Za,reduceCtorEq,z3e,ld51,ln51,z73 k2,q1,q2,z0x k3,Zq,Ze])|(refine qZm ?_ ?_;simp (config:=qZc) (disch:=first|omega|rfl) only[sB,Za,reduceCtorEq];refine z05 ?_))
 refine qZk (fun k st=>∃tm H' i,st=⟨tm,[],H'⟩/\k=t.sub.length - i/\i<=t.sub.length/\(∀j,j < i->t.sub[j]?=t'.sub[j]?) /\
   tm.get 2=some (.pointer (some ⟨H.next,0,none⟩))/\tm.get 3=some (.pointer (some ⟨H.next+1,0,none⟩))/\tm.get 30=some (.int .i64 t.sub.length)/\tm.get 31=some (.int .i64 (i:Nat)) /\
   H'.get H.next=some (.row (eightT t.kind t.term ta tc a t.sub.length c) 53)/\H'.get (H.next+1)=some (.row (eightT t'.kind t'.term ta' tc' a' t'.sub.length c') 53)/\HX H H') ?_ t.sub.length _ ?_
 ·rintro k st ⟨tm,H',i,rfl,rfl,hi,hc,t2,t3,t30,t31,gp',gq',hx'⟩;have q1:=row8 gp';have q2:=row8 gq';by_cases hlt:i < t.sub.length
  ·have hlt':i < t'.sub.length:=by omega
   obtain⟨b,o,rfl,hld,hr1⟩:=rl.el hlt;obtain⟨b',o',rfl,hld',hr2⟩:=rl'.el hlt';obtain⟨ua,uc,va,vc,hc1⟩:=hr1.eight;obtain⟨ua',uc',va',vc',hc2⟩:=hr2.eight;rw[hc1] at hr1 hld;rw[hc2] at hr2 hld';have hld1:=hx'.load hw hld;have hld2:=hx'.load hw hld'
   repeat' (first|refine qZa ?_|refine qZg ?_|(refine qZe ?_;try simp only[z00])|(refine qZb ?_;simp (config:=qZc) (disch:=first|omega|rfl) only[sB,Za,t30,t31,decl hlt])|(refine qZj [([(0,0),(1,0),(2,0),(3,0),(4,0),(5,0),(6,0),(7,0),(8,0),(9,0)],some 10),([(11,1)],none)] ?_ ?_;kernel_rfl;simp (config:=qZc) (disch:=first|omega|rfl) only[sD,sB,Za,Zb,reduceCtorEq,z3e,ld51,ia51,ld53,cl79,t2,t3,q1,q2,hld1,hld2,isAlloc,isRead])|(refine qZd ?_ ?_;simp (config:=qZc) (disch:=first|omega|rfl) only[sB];refine z05 ?_))
   have hb:=hx'.bump 12;have hs:=t.size _ (Zz hlt);refine(ih (t:=t.sub[i]) (t':=t'.sub[i]) (by omega) (hr1.mono hb hw) (hr2.mono hb hw) hb.wf).mono ?_;rintro v H4 ⟨rfl,hx4⟩;have hx5:=hb.trans hx4;by_cases he:t.sub[i]=t'.sub[i]
   ·repeat' (first|(refine qZe ?_;try simp only[sA])|(refine qZb ?_;simp (config:=qZc) (disch:=first|omega|rfl) only[sB,Za,t31,z0d])|(refine z0q ?_;simp (config:=qZc) (disch:=first|omega|rfl) only[sD,sB,Za,zcb he,Zq,isAlloc,isRead])|(refine qZm ?_ ?_;simp (config:=qZc) (disch:=first|omega|rfl) only[sB,Za];refine z05 ?_))
    refine⟨t.sub.length - (i+1),by omega,_,_,i+1,rfl,rfl,by omega,fun j hj=>?_,(by simp only[sG,Za,t2]),(by simp only[sG,Za,t3]),(by simp only[sG,Za,t30]),(by simp only[sB,Za];rfl),hx4.get hb.wf gp',hx4.get hb.wf gq',hx5⟩;by_cases hji:j=i
    ·subst hji;rw[Zc hlt,Zc hlt',he]
    ·exact hc j (by omega)
   ·repeat' (first|refine qZa ?_|(refine qZf ?_;try simp only[z06,z01])|(refine qZb ?_;simp (config:=qZc) (disch:=first|omega|rfl) only[sA])|(refine z0q ?_;simp (config:=qZc) (disch:=first|omega|rfl) only[sD,sB,Za,z79 he,ZH,isAlloc,isRead])|(refine qZd ?_ ?_;simp (config:=qZc) (disch:=first|omega|rfl) only[sB,Za];refine z05 ?_))
    refine z04 rfl (by simp only[sB,Za];rfl) ⟨?_,hx5⟩;rw[z79];rintro rfl;exact he rfl
  ·repeat' (first|refine qZa ?_|(refine qZi ?_;try simp only[sB])|(refine qZf ?_)|(refine qZb ?_;simp (config:=qZc) (disch:=first|omega|rfl) only[sA,t30,t31,decn hlt])|(refine qZm ?_ ?_;simp (config:=qZc) (disch:=first|omega|rfl) only[sB];refine z05 ?_))
   refine z04 rfl (by simp only[sB,Za];rfl) ⟨?_,hx'⟩;rw[zcb];refine zmy k1 k2 (ZN fun j=>?_);by_cases hj:j < i
   ·exact hc j hj
   ·rw[ZA (by omega),ZA (by omega)]
 ·exact⟨_,_,0,rfl,rfl,by omega,by omega,(by simp only[sG,Za,reduceCtorEq]),(by simp only[sG,Za,reduceCtorEq]),(by simp only[sG,Za,reduceCtorEq]),(by simp only[sB,Za,reduceCtorEq];rfl),gp3,gq3,hx⟩
set_option maxHeartbeats 8000000 in
theorem zcc {m:Nat}:∀{t t':Bdy}{cs cs':List Value}{H:Heap},SizeOf.sizeOf t < m->RepB H t cs->RepB H t' cs'->H.wf ->
  EvF Tryd.prog okT 52 [.agg ⟨cs⟩,.agg ⟨cs'⟩] H fun v H'=>v=.bool (eqB t t')/\HX H H':=by
 induction m with
 |zero=>intro t t' cs cs' H h;omega
 |succ m ih =>
 intro t t' cs cs' H hsz r r' hw;obtain⟨ts,a,c,cells,rfl,hk,rt,rl⟩:=r.inv;obtain⟨ts',a',c',cells',rfl,-,rt',rl'⟩:=r'.inv;obtain⟨ta,tc,cellst,rfl,-⟩:=rt.inv;obtain⟨ta',tc',cellst',rfl,-⟩:=rt'.inv;show EvF Tryd.prog okT 52 [.agg ⟨eightT t.kind t.term ta tc a t.sub.length c⟩,.agg ⟨eightT t'.kind t'.term ta' tc' a' t'.sub.length c'⟩] H _;refine EvF.enter rfl Tryd.func52 (by decide) rfl ?_;(repeat refine qZa ?_);refine qZb ?_;simp (config:=qZc) (disch:=first|omega|rfl) only[sB,initTm,dBox,Za,Value.cells,one,reduceCtorEq];obtain⟨H2,e2,hx2,gp,gq,hnx,hw2⟩:=new2 hw (.row (eightT t.kind t.term ta tc a t.sub.length c) 53) (.row (eightT t'.kind t'.term ta' tc' a' t'.sub.length c') 53);simp only[e2];have q1:=row8 gp;have q2:=row8 gq;clear e2;(repeat refine qZa ?_);refine qZb ?_;simp (config:=qZc) (disch:=first|omega|rfl) only[sB,Za,reduceCtorEq,z8u,ld26,cl37,q1,q2];refine(zai (rt.mono hx2 hw) (rt'.mono hx2 hw) hw2).mono ?_;rintro v H3 ⟨rfl,hx3⟩;have gp3:=hx3.get hw2 gp;have gq3:=hx3.get hw2 gq;have q1:=row8 gp3;have q2:=row8 gq3;have hx:=hx2.trans hx3;by_cases k2:t.term=t'.term;rotate_left
 ·repeat' (first|refine qZa ?_|(refine qZf ?_;try simp only[z06,z01])|(refine qZb ?_;simp (config:=qZc) (disch:=first|omega|rfl) only[sB,Za,reduceCtorEq,z3u k2,ZH])|(refine qZd ?_ ?_;simp (config:=qZc) (disch:=first|omega|rfl) only[sB,Za,reduceCtorEq];refine z05 ?_))
  exact z04 rfl (by simp only[sB,Za,reduceCtorEq];rfl) ⟨by rw[z79 (fun h=>k2 (by rw[h]))],hx⟩
 by_cases k1:t.kind=t'.kind;rotate_left
 ·repeat' (first|refine qZa ?_|(refine qZf ?_;try simp only[z06,z01])|(refine qZb ?_;simp (config:=qZc) (disch:=first|omega|rfl) only[sB,Za,reduceCtorEq,z1j,ld3,z73 k2,q1,q2,z1y k1,Zq,Ze])|(refine qZd ?_ ?_;simp (config:=qZc) (disch:=first|omega|rfl) only[sB,Za,reduceCtorEq];refine z05 ?_))
  exact z04 rfl (by simp only[sB,Za,reduceCtorEq];rfl) ⟨by rw[z79 (fun h=>k1 (by rw[h]))],hx⟩
 by_cases k3:(t.sub.length:Int)=t'.sub.length;rotate_left
 ·repeat' (first|refine qZa ?_|(refine qZf ?_;try simp only[z06,z01])|(refine qZb ?_;simp (config:=qZc) (disch:=first|omega|rfl) only[sB,Za,reduceCtorEq,z1j,ld3,z3e,ld51,ln51,z73 k2,q1,q2,z0x k1,z1y k3,Zq,Ze])|(refine qZd ?_ ?_;simp (config:=qZc) (disch:=first|omega|rfl) only[sB,Za,reduceCtorEq];refine z05 ?_))
  exact z04 rfl (by simp only[sB,Za,reduceCtorEq];rfl) ⟨by rw[z79 (fun h=>k3 (by rw[h]))],hx⟩
 have hlen:t.sub.length=t'.sub.length:=by omega
 have hm:=rl.cap;have hl:=rl.len;have hmx:t.sub.length<=9223372036854775807:=Zk hl (Zk hm (by decide))
 repeat' (first|refine qZa ?_|refine qZg ?_|(refine qZe ?_;try simp only[z00])|(refine qZb ?_;simp (config:=qZc) (disch:=first|omega|rfl) only[sB,Za,reduceCtorEq,z1j,ld3,z3e,ld51,ln51,z73 k2,q1,q2,z0x k1,z0x k3,Zq,Ze])|(refine qZm ?_ ?_;simp (config:=qZc) (disch:=first|omega|rfl) only[sB,Za,reduceCtorEq];refine z05 ?_))
 refine qZk (fun k st=>∃tm H' i,st=⟨tm,[],H'⟩/\k=t.sub.length - i/\i<=t.sub.length/\(∀j,j < i->t.sub[j]?=t'.sub[j]?) /\
   tm.get 2=some (.pointer (some ⟨H.next,0,none⟩))/\tm.get 3=some (.pointer (some ⟨H.next+1,0,none⟩))/\tm.get 6=some (.int .i64 (i:Nat)) /\
   H'.get H.next=some (.row (eightT t.kind t.term ta tc a t.sub.length c) 53)/\H'.get (H.next+1)=some (.row (eightT t'.kind t'.term ta' tc' a' t'.sub.length c') 53)/\HX H H') ?_ t.sub.length _ ?_
 ·rintro k st ⟨tm,H',i,rfl,rfl,hi,hc,t2,t3,t6,gp',gq',hx'⟩;have q1:=row8 gp';have q2:=row8 gq';by_cases hlt:i < t.sub.length
  ·have hlt':i < t'.sub.length:=by omega
   obtain⟨b,o,rfl,hld,hr1⟩:=rl.el hlt;obtain⟨b',o',rfl,hld',hr2⟩:=rl'.el hlt';obtain⟨ua,uc,va,vc,hc1⟩:=hr1.eight;obtain⟨ua',uc',va',vc',hc2⟩:=hr2.eight;rw[hc1] at hr1 hld;rw[hc2] at hr2 hld';have hld1:=hx'.load hw hld;have hld2:=hx'.load hw hld'
   repeat' (first|refine qZa ?_|refine qZg ?_|(refine qZe ?_;try simp only[z00])|(refine qZb ?_;simp (config:=qZc) (disch:=first|omega|rfl) only[sB,Za,z3e,ld51,ln51,t2,t6,q1,decl hlt])|(refine qZj [([(0,0),(1,0),(2,0),(3,0),(4,0),(5,0),(6,0),(7,0),(8,0),(9,0)],some 10),([(11,1)],none)] ?_ ?_;kernel_rfl;simp (config:=qZc) (disch:=first|omega|rfl) only[sD,sB,Za,Zb,reduceCtorEq,z3e,ld51,ia51,ld53,cl52,t2,t3,t6,q1,q2,hld1,hld2,isAlloc,isRead])|(refine qZd ?_ ?_;simp (config:=qZc) (disch:=first|omega|rfl) only[sB,Za];refine z05 ?_))
   have hb:=hx'.bump 12;have hs:=t.size _ (Zz hlt);refine(ih (t:=t.sub[i]) (t':=t'.sub[i]) (by omega) (hr1.mono hb hw) (hr2.mono hb hw) hb.wf).mono ?_;rintro v H4 ⟨rfl,hx4⟩;have hx5:=hb.trans hx4;by_cases he:t.sub[i]=t'.sub[i]
   ·repeat' (first|refine qZa ?_|(refine qZe ?_;try simp only[sA])|(refine qZb ?_;simp (config:=qZc) (disch:=first|omega|rfl) only[sB,Za,Zq,t6,z0d])|(refine z0q ?_;simp (config:=qZc) (disch:=first|omega|rfl) only[sD,sB,Za,zcb he,isAlloc,isRead])|(refine qZm ?_ ?_;simp (config:=qZc) (disch:=first|omega|rfl) only[sB,Za];refine z05 ?_))
    refine⟨t.sub.length - (i+1),by omega,_,_,i+1,rfl,rfl,by omega,fun j hj=>?_,(by simp only[sG,Za,t2]),(by simp only[sG,Za,t3]),(by simp only[sB,Za];rfl),hx4.get hb.wf gp',hx4.get hb.wf gq',hx5⟩;by_cases hji:j=i
    ·subst hji;rw[Zc hlt,Zc hlt',he]
    ·exact hc j (by omega)
   ·repeat' (first|refine qZa ?_|(refine qZf ?_;try simp only[z06,z01])|(refine qZb ?_;simp (config:=qZc) (disch:=first|omega|rfl) only[sB,Za,ZH])|(refine z0q ?_;simp (config:=qZc) (disch:=first|omega|rfl) only[sD,sB,Za,z79 he,isAlloc,isRead])|(refine qZd ?_ ?_;simp (config:=qZc) (disch:=first|omega|rfl) only[sB,Za];refine z05 ?_))
    refine z04 rfl (by simp only[sB,Za];rfl) ⟨?_,hx5⟩;rw[z79];rintro rfl;exact he rfl
  ·repeat' (first|refine qZa ?_|(refine qZi ?_;try simp only[sB])|(refine qZf ?_)|(refine qZb ?_;simp (config:=qZc) (disch:=first|omega|rfl) only[sB,Za,z3e,ld51,ln51,t2,t6,q1,decn hlt])|(refine qZm ?_ ?_;simp (config:=qZc) (disch:=first|omega|rfl) only[sB,Za];refine z05 ?_))
   refine z04 rfl (by simp only[sB,Za];rfl) ⟨?_,hx'⟩;rw[zcb];refine zmy k1 k2 (ZN fun j=>?_);by_cases hj:j < i
   ·exact hc j hj
   ·rw[ZA (by omega),ZA (by omega)]
 ·exact⟨_,_,0,rfl,rfl,by omega,by omega,(by simp only[sG,Za,reduceCtorEq]),(by simp only[sG,Za,reduceCtorEq]),(by simp only[sB,Za,reduceCtorEq];rfl),gp3,gq3,hx⟩
set_option maxHeartbeats 8000000 in
theorem z9l {c d:Cls}{cs cs':List Value}{H:Heap}(r:RdC H c cs) (r':RdC H d cs') (hw:H.wf) :
  EvF Tryd.prog okT 24 [.agg ⟨cs⟩,.agg ⟨cs'⟩] H fun v H'=>v=.bool (eqC c d)/\HX H H':=by
 obtain⟨ha,hc,ta,tc,a,k,rfl,rh,rb⟩:=r;obtain⟨ha',hc',ta',tc',a',k',rfl,rh',rb'⟩:=r';refine EvF.enter rfl Tryd.func24 (by decide) rfl ?_;(repeat refine qZa ?_);refine qZb ?_;simp (config:=qZc) (disch:=first|omega|rfl) only[sB,initTm,dBox,Za,Value.cells,one,reduceCtorEq];obtain⟨H2,e2,hx2,g1,g2,hn2,hw2⟩:=new2 hw (.row (fift c.head ha hc c.body.kind c.body.term ta tc a c.body.sub.length k c.vars) 55) (.row (fift d.head ha' hc' d.body.kind d.body.term ta' tc' a' d.body.sub.length k' d.vars) 55);simp only[e2];clear e2;have q1:=z1n g1;have q2:=z1n g2;(repeat refine qZa ?_);refine qZb ?_;simp (config:=qZc) (disch:=first|omega|rfl) only[sB,Za,reduceCtorEq,z8s,ld26,cl37,q1,q2];refine(zai (rh.mono hx2 hw) (rh'.mono hx2 hw) hw2).mono ?_;rintro v H3 ⟨rfl,hx3⟩;have g1:=hx3.get hw2 g1;have g2:=hx3.get hw2 g2;have hx:=hx2.trans hx3;have q1:=z1n g1;have q2:=z1n g2;(try simp (config:=qZc) (disch:=first|omega|rfl) only[]);(repeat refine qZa ?_);refine qZb ?_;simp (config:=qZc) (disch:=first|omega|rfl) only[sB,Za,reduceCtorEq,zh6,ld53,cl52,q1,q2]
 refine(zcc (Zg _) (rb.mono hx hw) (rb'.mono hx hw) hx.wf).mono ?_;rintro v H4 ⟨rfl,hx4⟩;have q1:=z1n (hx4.get hx.wf g1);have q2:=z1n (hx4.get hx.wf g2);have hxE:=hx.trans hx4;by_cases k1:c.head=d.head;rotate_left
 ·repeat' (first|refine qZa ?_|(refine qZf ?_)|(refine qZb ?_;simp (config:=qZc) (disch:=first|omega|rfl) only[sB,Za,reduceCtorEq,z3u k1,Ze]))
  exact z04 rfl (by simp only[sB,Za,reduceCtorEq];rfl) ⟨by rw[zsu (fun h=>k1 (by rw[h]))],hxE⟩
 by_cases k2:c.body=d.body;rotate_left
 ·repeat' (first|refine qZa ?_|(refine qZf ?_)|(refine qZb ?_;simp (config:=qZc) (disch:=first|omega|rfl) only[sB,Za,reduceCtorEq,z73 k1,z79 k2,Ze]))
  exact z04 rfl (by simp only[sB,Za,reduceCtorEq];rfl) ⟨by rw[zsu (fun h=>k2 (by rw[h]))],hxE⟩
 by_cases k3:c.vars=d.vars;rotate_left
 ·repeat' (first|refine qZa ?_|(refine qZf ?_)|(refine qZb ?_;simp (config:=qZc) (disch:=first|omega|rfl) only[sB,Za,reduceCtorEq,zdh,ld3,q1,q2,z73 k1,zcb k2,z0t k3]))
  exact z04 rfl (by simp only[sB,Za,reduceCtorEq];rfl) ⟨by rw[zsu (fun h=>k3 (by rw[h]))],hxE⟩
 repeat' (first|refine qZa ?_|(refine qZf ?_)|(refine qZb ?_;simp (config:=qZc) (disch:=first|omega|rfl) only[sB,Za,reduceCtorEq,zdh,ld3,q1,q2,z73 k1,zcb k2,z0y k3]))
 exact z04 rfl (by simp only[sB,Za,reduceCtorEq];rfl) ⟨by rw[zup (zmz k1 k2 k3)],hxE⟩
def RStripEnd (H0 H:Heap) (R:ByteArray × Tm × Er) (v:Value) (H':Heap):Prop:=HX H H'/\∃a c sd,v=.tuple ⟨[.string R.1,.agg ⟨six R.2.1 a c⟩,.agg ⟨sd⟩]⟩/\RepT H0 R.2.1 (six R.2.1 a c)/\RSaid H' (Rg H.next H'.next) R.2.2 sd/\checkS R.2.1=0
end Go.Proofs.hq
end

section
namespace Go.Hb
open Go Go.RowKit
structure RdI (H:Heap) (L:List Int) (a:Option Addr) (c:Nat):Prop where
 len:L.length<=c
 cap:c<=maxLen
 get:∀(i:Nat) (h:i < L.length),∃b o,a=some ⟨b,o,none⟩/\H.load ⟨b,o+i,none⟩ 1=some [.int .i64 L[i]]
theorem RdI.max {H:Heap}{L:List Int}{a:Option Addr}{c:Nat}(h:RdI H L a c):L.length<=9223372036854775807:=Zk h.len h.cap
end Go.Hb
namespace Go.Proofs.hq
open Go Go.RowKit Go.Hb
variable {ok:Ok}
set_option maxRecDepth 10000
attribute [local irreducible] LX LG EL STG SOP SGO SGD SAL SRD SEF SEG SLK SCK ES
theorem IntL.rd {H:Heap}{T:TypeId}{S:Nat->Prop}{L:List Int}{v:Value}(h:IntL H T S L v):∃a c,v=.slice a L.length c/\RdI H L a c/\(∀b o,a=some ⟨b,o,none⟩->S b):=by
 rcases h with ⟨rfl,rfl⟩|⟨b,c,rfl,h2,h3,h4,h5⟩
 ·exact⟨none,0,rfl,⟨Zf _,Zo _,fun i h=>by simp at h⟩,fun b o h=>by cases h⟩
 ·refine⟨_,c,rfl,⟨h2,h3,fun i hi=>⟨b,0,rfl,?_⟩⟩,fun b' o h=>by cases h;exact h5⟩;unfold Heap.load Heap.cells;simp only[h4,ZF];have:(List.drop i (L.map fun n=>Value.int .i64 n)).take 1=[.int .i64 L[i]]:=by
   rw[ZI (by simpa using hi)];simp
  rw[this];rfl
end Go.Proofs.hq
end

section
namespace Go.Hb
open Go Go.RowKit
structure RepBs (H:Heap) (B:List (Int × Tm)) (a:Option Addr) (c:Nat):Prop where
 len:B.length<=c
 cap:c<=maxLen
 el:∀(i:Nat) (h:i < B.length),∃b o a' c',a=some ⟨b,o,none⟩/\H.load ⟨b,o+i*7,none⟩ 1=some [.int .i64 B[i].1]/\H.load ⟨b,o+i*7+1,none⟩ 6=some (six B[i].2 a' c')/\RepT H B[i].2 (six B[i].2 a' c')
theorem RepBs.max {H:Heap}{B:List (Int × Tm)}{a:Option Addr}{c:Nat}(h:RepBs H B a c):B.length<=9223372036854775807:=Zk h.len h.cap
theorem RepBs.mono {H H':Heap}{B:List (Int × Tm)}{a:Option Addr}{c:Nat}(h:RepBs H B a c) (hx:HX H H') (hw:H.wf):RepBs H' B a c :=
 ⟨h.len,h.cap,fun i hi=>let ⟨b,o,a',c',e,l1,l2,r⟩:=h.el i hi;⟨b,o,a',c',e,hx.load hw l1,hx.load hw l2,r.mono hx hw⟩⟩
end Go.Hb
namespace Go.Proofs.hq
open Go Go.RowKit Go.Hb
variable {ok:Ok}
set_option maxRecDepth 10000
attribute [local irreducible] LX LG EL STG SOP SGO SGD SAL SRD SEF SEG SLK SCK ES
end Go.Proofs.hq
end

section
namespace Go.Hb
open Go Go.RowKit
end Go.Hb
namespace Go.Proofs.hq
open Go Go.RowKit Go.Hb
variable {ok:Ok}
set_option maxRecDepth 10000
attribute [local irreducible] LX LG EL STG SOP SGO SGD SAL SRD SEF SEG SLK SCK ES
end Go.Proofs.hq
end

section
namespace Go.Proofs.hq
open Go Go.RowKit Go.Hb
variable {ok:Ok}
set_option maxRecDepth 10000
attribute [local irreducible] LX LG EL STG SOP SGO SGD SAL SRD SEF SEG SLK SCK ES
abbrev bindC (n:Int) (i:Nat):List Value:=[.int .i64 n,.int .i64 1,.string Zd,.string Zd,.int .u64 0,.int .i64 (i:Nat),.slice none 0 0]
def cellsB:List Int->Nat->List Value
 |[],_=>[]
 |n :: L,i=>bindC n i++cellsB L (i+1)
def bndsB:List Int->Nat->List (Int × Tm)
 |[],_=>[]
 |n :: L,i=>(n,varT (i:Nat)) :: bndsB L (i+1)
theorem zaw:∀(L:List Int) (i:Nat),(cellsB L i).length=L.length*7
 |[],i=>rfl
 |n :: L,i=>by
  have h7:(bindC n i).length=7:=rfl;rw[cellsB,Zy,zaw L (i+1),h7,show (n :: L).length=L.length+1 from rfl];omega
theorem z4u:∀(L:List Int) (i:Nat),(bndsB L i).length=L.length
 |[],i=>rfl
 |n :: L,i=>by rw[bndsB,ZJ,z4u L (i+1),ZJ]
theorem z9m (n:Int):∀(L:List Int) (i:Nat),cellsB (L++[n]) i=cellsB L i++bindC n (i+L.length)
 |[],i=>by rw[List.nil_append,cellsB,cellsB,cellsB];rfl
 |m :: L,i=>by
  rw[List.cons_append,cellsB,z9m n L (i+1),cellsB,List.append_assoc,ZJ,show i+1+L.length=i+(L.length+1) by omega]
theorem z9n:∀(L:List Int) (i:Nat),(cellsB L i).all one=true
 |[],i=>rfl
 |n :: L,i=>by rw[cellsB,List.all_append,z9n L (i+1)];rfl
theorem zeg:∀(L:List Int) (i j:Nat) (h:j < L.length),((cellsB L i).drop (j*7)).take 7=bindC L[j] (i+j)
 |[],_,_,h=>by simp at h
 |n :: L,i,0,_=>by
  rw[cellsB,ZL,List.drop_zero,List.take_append_of_le_length (by simp)];rfl
 |n :: L,i,j+1,h=>by
  have h7:(bindC n i).length=7:=rfl;rw[cellsB,Nat.succ_mul,Nat.add_comm (j*7) 7,<-List.drop_drop,List.drop_left' h7,zeg L (i+1) j (by simpa using h)];simp only[List.getElem_cons_succ];rw[show i+1+j=i+(j+1) by omega]
theorem zi0:∀(L:List Int) (i j:Nat) (h:j < (bndsB L i).length) (h':j < L.length),(bndsB L i)[j]=(L[j],varT ((i+j:Nat):Int))
 |[],_,_,_,h=>by simp at h
 |n :: L,i,0,_,_=>rfl
 |n :: L,i,j+1,h,h'=>by
  have:=zi0 L (i+1) j (by rw[z4u];simpa using h') (by simpa using h');simp only[bndsB,List.getElem_cons_succ];rw[this,show i+1+j=i+(j+1) by omega]
def BnL (H:Heap) (S:Nat->Prop) (L:List Int) (v:Value):Prop :=
 (L=[]/\v=.slice none 0 0)\/∃b c,v=.slice (some ⟨b,0,none⟩) L.length c/\L.length<=c/\c<=maxLen/\H.get b=some (.row (cellsB L 0) 83)/\S b
theorem BnL.rep {H:Heap}{S:Nat->Prop}{L:List Int}{v:Value}(h:BnL H S L v) (hL:L.length<=most):∃a c,v=.slice a (bndsB L 0).length c/\RepBs H (bndsB L 0) a c:=by
 have hms:most<=9223372036854775807:=by simp [most]
 rcases h with ⟨rfl,rfl⟩|⟨b,c,rfl,h1,h2,h3,h4⟩
 ·exact⟨none,0,rfl,Zf _,Zo _,fun i hi=>by simp [bndsB] at hi⟩
 ·refine⟨_,c,by rw[z4u],by rw[z4u];exact h1,h2,fun i hi=>?_⟩;have hi':i < L.length:=by rw[z4u] at hi;exact hi
  have hat:=zi0 L 0 i hi hi';have hc:=zeg L 0 i hi';rw[ZF] at hat hc;have c1:((cellsB L 0).drop (i*7)).take 1=[.int .i64 L[i]]:=by
   have:=congrArg (List.take 1) hc;rw[List.take_take] at this;exact this
  have c6:((cellsB L 0).drop (i*7+1)).take 6=six (varT (i:Nat)) none 0:=by
   have:=congrArg (fun x=>(x.drop 1)) hc;simp only[List.drop_take,List.drop_drop] at this;exact this
  rw[hat];refine⟨b,0,none,0,rfl,?_,?_,zlz ⟨by omega,by omega⟩⟩
  ·unfold Heap.load Heap.cells;simp only[h3,ZF,c1];rfl
  ·unfold Heap.load Heap.cells;simp only[h3,ZF,c6];rfl
theorem BnL.push {H:Heap}{S S2:Nat->Prop}{L:List Int}{n:Int}{v:Value}{ad:Addr}{c1:Nat}(h:BnL H S L v) (hw:H.wf) (hl:H.load ad (1*7)=some (bindC n L.length)) (hm:L.length+1<=most) (h2:S2 H.next) :
  ∃H2 v2,dAp Tryd.prog #[23,23] v (.slice (some ad) 1 c1) H=some (.val v2 H2)/\BnL H2 S2 (L++[n]) v2/\HK S H H2/\H2.next=H.next+1:=by
 have hp:apOk Tryd.prog 23 83 7:=z45 (by kernel_rfl);have hmax:L.length+1<=maxLen:=Zk hm (by simp [most,maxLen]);have hcl:=zaw L 0;rcases h with ⟨rfl,rfl⟩|⟨b,c,rfl,hlc,hcm,hg,hs⟩
 ·exact⟨_,_,z47 hp (by omega) hm hl rfl,.inr ⟨H.next,1,rfl,Zf _,hmax,z0i,h2⟩,((HX.refl hw).new _).hk _,rfl⟩
 ·refine⟨_,_,z3a hp (by omega) hm hl rfl hg (by omega) (by rw[Zl (by omega)];exact z9n L 0),.inr ⟨H.next,L.length+1,by simp,by simp,hmax,?_,h2⟩,((HK.refl hw).put (.inl hs) (hw _ _ hg) none).new _,rfl⟩;show ((H.put b none).new _).get (H.put b none).next=_;rw[z0i,Zl (by omega),z9m,ZF]
theorem BnL.heap {H H':Heap}{S:Nat->Prop}{L:List Int}{v:Value}(h:BnL H S L v) (hk:∀n,S n->n < H.next->H'.get n=H.get n) (hw:H.wf):BnL H' S L v:=by
 rcases h with h|⟨b,c,h1,h2,h3,h4,h5⟩
 ·exact .inl h
 ·exact .inr ⟨b,c,h1,h2,h3,(hk b h5 (hw _ _ h4)).trans h4,h5⟩
theorem BnL.slice {H:Heap}{S:Nat->Prop}{L:List Int}{v:Value}(h:BnL H S L v):∃a c,v=.slice a L.length c:=by
 rcases h with ⟨rfl,rfl⟩|⟨b,c,rfl,-⟩
 ·exact⟨none,0,rfl⟩
 ·exact⟨_,c,rfl⟩
def RReadEnd (H:Heap) (R:ByteArray × Cls × Er) (v:Value) (H':Heap):Prop:=HX H H'/\∃cs sd,v=.tuple ⟨[.string R.1,.agg ⟨cs⟩,.agg ⟨sd⟩]⟩/\RepC H' (Rg H.next H'.next) R.2.1 cs/\RSaid H' (Rg H.next H'.next) R.2.2 sd
theorem Good.of {b:Bdy}(h:(readyS (toldB b)).2=.ok) (e:(readyS (toldB b)).1=b):Good b:=by
 have:=zjh h
 rwa [e] at this
theorem Good.szF {b:Bdy}(h:Good b):szF b 0<=20000:=by
 have:=h.size;have:=zr0 _ b 0 (Zg _);omega
noncomputable def termV (b:Bdy):Tm:=open Classical in if Good b then toldB b else zeroT
noncomputable def termE (b:Bdy):Int:=open Classical in if Good b then 0 else 1
set_option maxHeartbeats 8000000 in
theorem zp3 {b:Bdy}{cs:List Value}{H:Heap}(hf:FewB 1000000 b) (r:RepB H b cs) (hw:H.wf) :
  EvF Tryd.prog okT 73 [.agg ⟨cs⟩] H fun v H'=>HX H H'/\∃out,v=.tuple ⟨[.agg ⟨out⟩,.int .i64 (termE b)]⟩/\OT H' (Rg H.next H'.next) (termV b) out:=by
 have fin:∀{H':Heap},¬Good b->HX H H'->HX H H'/\∃out,Value.tuple ⟨[.agg ⟨six zeroT none 0⟩,.int .i64 1]⟩=.tuple ⟨[.agg ⟨out⟩,.int .i64 (termE b)]⟩/\OT H' (Rg H.next H'.next) (termV b) out:=fun hn hx=>⟨hx,_,by rw[termE,if_neg hn],by rw[termV,if_neg hn];exact⟨RepS.leaf z9c rfl (Zo _) fun _=>rfl,.inl rfl⟩⟩
 obtain⟨ta,tc,a,c,rfl⟩:=r.eight;refine EvF.enter rfl Tryd.func73 (by decide) rfl ?_;(repeat refine qZa ?_);refine qZb ?_;simp (config:=qZc) (disch:=first|omega|rfl) only[sB,initTm,dBox,dAlloc,Value.cells,one,zr26];obtain⟨H2,e2,hx2,g1,g2,hn2,hw2⟩:=new2 hw (.row (eightT b.kind b.term ta tc a b.sub.length c) 53) (.row zero6 26);simp only[e2];clear e2;have q1:=row8 g1;(repeat refine qZa ?_);refine qZb ?_;simp (config:=qZc) (disch:=first|omega|rfl) only[sB,Za,reduceCtorEq,ld53,cl92,q1];refine(zmx (n:=0) (Zg _) (r.mono hx2 hw) (by decide) hw2).mono ?_;rintro v H3 ⟨hx3,rfl⟩;have g1:=hx3.get hw2 g1;have g2:=hx3.get hw2 g2;have hx:=hx2.trans hx3;have w3:=hx.wf;have q1:=row8 g1;(try simp (config:=qZc) (disch:=first|omega|rfl) only[sA]);by_cases hs:20000 < szF b 0
 ·have hd:decide (((szF b 0:Nat):Int) > 20000)=true:=decide_eq_true (by omega)
  repeat' (first|refine qZa ?_|(refine qZf ?_;try simp only[z06,z01])|(refine qZb ?_;simp (config:=qZc) (disch:=first|omega|rfl) only[sB,Za,Zb,Value.cells,one,reduceCtorEq,layC,bd26,st26,hd,g2])|(refine qZd ?_ ?_;simp (config:=qZc) (disch:=first|omega|rfl) only[sB,Za,reduceCtorEq,hd];refine z05 ?_))
  exact z0f rfl (by simp only[sB,Za,reduceCtorEq];rfl) (by simp only[sB,Zb,cutC,ld26];rfl) (by simp only[sG,Za,reduceCtorEq]) (fin (fun h=>absurd h.szF (by omega)) (hx.pt (i:=H.next+1) (by omega) g2 _))
 have hd:decide (((szF b 0:Nat):Int) > 20000)=false:=decide_eq_false (by omega);refine qZm (by simp (config:=qZc) (disch:=first|omega|rfl) only[sB,Za,reduceCtorEq,hd]) ?_;(try refine qZe ?_);(try simp only[z00,z03]);(repeat refine qZa ?_);refine qZb ?_;simp (config:=qZc) (disch:=first|omega|rfl) only[sB,dAlloc,Za,reduceCtorEq,zr26,ld53,cl93,q1];have r3:=r.mono hx hw;refine(zc3 (Zg _) (r3.bi w3) hf (fun n hn=>hn) w3).mono ?_;rintro v H4 ⟨hx4,out,rfl,hrT⟩;obtain⟨ao,co,cellso,rfl,-⟩:=hrT.rep.six;have w4:=hx4.wf;have g1:=hx4.get w3 g1;have g2:=hx4.get w3 g2;(try simp (config:=qZc) (disch:=first|omega|rfl) only[sB,Zb,one,st26]);obtain⟨H5,e5,hx5,g4,hn5,w5⟩:=z0r w4 (.row zero6 26) (.row (six (toldB b) ao co) 26);simp only[e5];clear e5;have g1:=hx5.get w4 g1;have g2:=hx5.get w4 g2;have q4:=row6 g4;have rt5:RepT H5 (toldB b) _:=hrT.rep.mono hx5 w4;(repeat refine qZa ?_);refine qZb ?_;simp (config:=qZc) (disch:=first|omega|rfl) only[sB,Za,reduceCtorEq,ld26,cl94,q4];refine(z9g rt5 w5).mono ?_
 rintro v H6 ⟨hx6,outB,ev,rfl,hoB,heB⟩;obtain⟨bta,btc,bsa,bsc,rfl⟩:=hoB.rep.eight;have w6:=hx6.wf;have g1:=hx6.get w5 g1;have g2:=hx6.get w5 g2;have g4:=hx6.get w5 g4;(try simp (config:=qZc) (disch:=first|omega|rfl) only[sB,dAlloc,Za,Zb,one,reduceCtorEq,zr53,st53]);obtain⟨H7,e7,hx7,g5,hn7,w7⟩:=z0r w6 (.row zero8 53) (.row (eightT (readyS (toldB b)).1.kind (readyS (toldB b)).1.term bta btc bsa (readyS (toldB b)).1.sub.length bsc) 53);simp only[e7];clear e7;have g1:=hx7.get w6 g1;have g2:=hx7.get w6 g2;have g4:=hx7.get w6 g4;have q1:=row8 g1;have q5:=row8 g5;have k57:=hx6.trans hx7;have k37:=(hx4.trans hx5).trans k57;by_cases hok:(readyS (toldB b)).2=.ok;rotate_left
 ·obtain⟨T0,x0,rfl⟩:=heB.rep.some hok
  repeat' (first|refine qZa ?_|(refine qZf ?_;try simp only[z06,z01])|(refine qZb ?_;simp (config:=qZc) (disch:=first|omega|rfl) only[sB,Za,Zb,Value.cells,one,reduceCtorEq,layC,bd26,st26,ze9,g2])|(refine qZd ?_ ?_;simp (config:=qZc) (disch:=first|omega|rfl) only[sB,Za,reduceCtorEq];refine z05 ?_))
  exact z0f rfl (by simp only[sB,Za,reduceCtorEq];rfl) (by simp only[sB,Zb,cutC,ld26];rfl) (by simp only[sG,Za,reduceCtorEq]) (fin (fun h=>hok (by rw[h.ready])) ((hx.trans k37).pt (i:=H.next+1) (by omega) g2 _))
 rw[hok] at heB;obtain rfl:ev=.nilIface:=heB.rep;(repeat refine qZa ?_);refine qZb ?_;simp (config:=qZc) (disch:=first|omega|rfl) only[sB,Za,reduceCtorEq,ld53,cl79,zau,q1,q5];refine(z6o (Zg _) (hoB.rep.mono hx7 w6) (r3.mono k37 w3) w7).mono ?_;rintro v H8 ⟨rfl,hx8⟩;have g2:=hx8.get w7 g2;have g4:=hx8.get w7 g4;have q4:=row6 g4;have w8:=hx8.wf;have k58:=k57.trans hx8;by_cases heq:(readyS (toldB b)).1=b;rotate_left
 ·repeat' (first|refine qZa ?_|(refine qZf ?_;try simp only[z06,z01])|(refine qZb ?_;simp (config:=qZc) (disch:=first|omega|rfl) only[sB,Za,Zb,Value.cells,one,reduceCtorEq,layC,bd26,st26,g2])|(refine z0n ?_;simp (config:=qZc) (disch:=first|omega|rfl) only[sB,Za,reduceCtorEq,z79 heq,ZH])|(refine qZd ?_ ?_;simp (config:=qZc) (disch:=first|omega|rfl) only[sB,Za,reduceCtorEq];refine z05 ?_))
  exact z0f rfl (by simp only[sB,Za,reduceCtorEq];rfl) (by simp only[sB,Zb,cutC,ld26];rfl) (by simp only[sG,Za,reduceCtorEq]) (fin (fun h=>heq (by rw[h.ready])) (((hx.trans k37).trans hx8).pt (i:=H.next+1) (by omega) g2 _))
 have hg:=Good.of hok heq
 repeat' (first|refine qZa ?_|(refine qZe ?_;try simp only[z00])|(refine qZb ?_;simp (config:=qZc) (disch:=first|omega|rfl) only[sB,Za,reduceCtorEq,ld26,cl95,q4])|(refine z0n ?_;simp (config:=qZc) (disch:=first|omega|rfl) only[sB,Za,reduceCtorEq,zcb heq,Zq,Ze])|(refine qZm ?_ ?_;simp (config:=qZc) (disch:=first|omega|rfl) only[sB,Za,reduceCtorEq];refine z05 ?_))
 refine(zc0 (rt5.mono k58 w5) hg.check w8).mono ?_;rintro v H9 ⟨hx9,outO,rfl,hot⟩;obtain⟨a9,c9,zhe,rfl,-⟩:=hot.rep.six;have g2:=hx9.get w8 g2;have k39:=(k37.trans hx8).trans hx9;have hx9':=hx.trans k39;have n3:=hx3.next;have n8:=(k37.trans hx8).next
 repeat' (first|(refine qZf ?_)|(refine z0n ?_;simp (config:=qZc) (disch:=first|omega|rfl) only[sB,Zb,one,st26,g2]))
 have hz:=hx9'.pt (i:=H.next+1) (by omega) g2 (some (.row (six (toldB b) a9 c9) 26));refine z0f rfl (by simp only[sB,Za,reduceCtorEq];rfl) (by simp only[sB,Zb,cutC,ld26];rfl) (by simp only[sB,Za,reduceCtorEq];rfl) ⟨hz,_,by rw[termE,if_pos hg],?_⟩;rw[termV,if_pos hg];refine hot.to fun n hn hl=>?_
 have a1:=hn.1;exact⟨by rw[get_put,if_neg (by omega)],⟨by omega,by rw[z07];exact hl⟩,by rw[z07];exact hl⟩
theorem RepT.whole {H:Heap}{c:Cls}{b:Nat}{a1 a2:Option Addr}{c1 c2:Nat}(hw:H.wf) (r1:RepT H c.head (six c.head a1 c1)) (r2:RepT H (toldB c.body) (six (toldB c.body) a2 c2)) (g:H.get b=some (.row (six c.head a1 c1++six (toldB c.body) a2 c2) 26)) :
  RepT H (wholeC c) (six (wholeC c) (some ⟨b,0,none⟩) 2):=(z6j (S:=fun n=>n < H.next) (by decide) g (hw _ _ g) hw (RepT.toS hw r1) (RepT.toS hw r2)).rep
noncomputable def checkC (c:Cls):Int:=open Classical in if Good c.body/\checkS c.head=0 then (if 400 < cnt c.head 0+cnt (toldB c.body) 0 then 110 else if GoodC c then 0 else 1) else 1
theorem GoodC.le {c:Cls}(h:GoodC c):¬ 400 < cnt c.head 0+cnt (toldB c.body) 0:=by
 have cc1:=z9k c.head;have cc2:=z9k (toldB c.body);have hf:=h.few;omega
theorem GoodC.chk {c:Cls}(h:GoodC c):checkC c=0:=by
 unfold checkC;rw[if_pos ⟨h.good,h.head⟩,if_neg h.le,if_pos h]
theorem zfp {c:Cls}(h:checkC c=0):GoodC c:=by
 unfold checkC at h;split at h
 ·split at h
  ·cases h
  ·split at h
   ·assumption
   ·cases h
 ·cases h
theorem zjk {c:Cls}(h:¬Good c.body):checkC c=1:=by unfold checkC;rw[if_neg fun q=>h q.1]
theorem zfq {c:Cls}(h:checkS c.head≠0):checkC c=1:=by unfold checkC;rw[if_neg fun q=>h q.2]
theorem zjl {c:Cls}(h1:Good c.body) (h2:checkS c.head=0) (h:400 < cnt c.head 0+cnt (toldB c.body) 0):checkC c=110:=by unfold checkC;rw[if_pos ⟨h1,h2⟩,if_pos h]
theorem z4v {c d:Cls}{m:ByteArray}{e:Er}(h1:Good c.body) (h2:checkS c.head=0) (h3:¬ 400 < cnt c.head 0+cnt (toldB c.body) 0) (hR:readS Zd (wholeC c)=(m,d,e)) (hn:¬(e=.ok/\d=c/\m=Zd)):checkC c=1:=by
 unfold checkC;rw[if_pos ⟨h1,h2⟩,if_neg h3,if_neg fun hg=>hn ?_];have:=hg.read Zd;rw[hR] at this;cases this;exact⟨rfl,rfl,rfl⟩
set_option maxHeartbeats 8000000 in
theorem zjm {c:Cls}{cs:List Value}{H:Heap}(hf:FewB 1000000 c.body) (r:RdC H c cs) (hw:H.wf) :
  EvF Tryd.prog okT 45 [.agg ⟨cs⟩] H fun v H'=>v=.int .i64 (checkC c)/\HX H H':=by
 obtain⟨ha,hc,ta,tc,a,k,rfl,rh,rb⟩:=r;refine EvF.enter rfl Tryd.func45 (by decide) rfl ?_;(repeat refine qZa ?_);refine qZb ?_;simp (config:=qZc) (disch:=first|omega|rfl) only[sB,initTm,dBox,Value.cells,one];obtain⟨H2,e2,hx2,g1,hn2,hw2⟩:=new1 hw (.row (fift c.head ha hc c.body.kind c.body.term ta tc a c.body.sub.length k c.vars) 55);simp only[e2];clear e2;have q1:=z1n g1;(repeat refine qZa ?_);refine qZb ?_;simp (config:=qZc) (disch:=first|omega|rfl) only[sB,Za,reduceCtorEq,zh6,ld53,cl73,q1];refine(zp3 hf (rb.mono hx2 hw) hw2).mono ?_;rintro v H3 ⟨hx3,out,rfl,hot⟩;obtain⟨ao,co,cellso,rfl,-⟩:=hot.rep.six;have w3:=hx3.wf;have n3:=hx3.next;(try simp (config:=qZc) (disch:=first|omega|rfl) only[sB,dAlloc,Za,Zb,one,reduceCtorEq,zr26,st26]);obtain⟨H4,e4,hx4,g3,hn4,w4⟩:=z0r w3 (.row zero6 26) (.row (six (termV c.body) ao co) 26);simp only[e4];clear e4;by_cases hg:Good c.body;rotate_left
 ·have hE:termE c.body≠0:=by rw[termE,if_neg hg];decide
  repeat' (first|refine qZa ?_|(refine qZf ?_;try simp only[z06,z01])|(refine qZb ?_;simp (config:=qZc) (disch:=first|omega|rfl) only[sB,Za,reduceCtorEq,z1y hE])|(refine qZd ?_ ?_;simp (config:=qZc) (disch:=first|omega|rfl) only[sB,Za,reduceCtorEq];refine z05 ?_))
  exact z04 rfl (by simp only[sB,Za,reduceCtorEq];rfl) ⟨by rw[zjk hg],(hx2.trans hx3).trans hx4⟩
 have hE:termE c.body=0:=by rw[termE,if_pos hg]
 have hV:termV c.body=toldB c.body:=by rw[termV,if_pos hg]
 rw[hV] at hot g3;have hx24:=hx3.trans hx4;have hx:=hx2.trans hx24;have g1:=hx24.get hw2 g1;have q1:=z1n g1;have rt4:=hot.rep.mono hx4 w3;(repeat refine qZa ?_);refine qZb ?_;simp (config:=qZc) (disch:=first|omega|rfl) only[sB,Za,reduceCtorEq,z8s,ld26,cl74,z0x hE,q1];refine(z2n _ _ _ (rh.mono hx hw) w4).mono ?_;rintro v H5 ⟨rfl,hx5⟩;have g1:=hx5.get w4 g1;have g3:=hx5.get w4 g3;have q1:=z1n g1;have q3:=row6 g3;have hx':=hx.trans hx5;have w5:=hx5.wf;by_cases hh:checkS c.head=0;rotate_left
 ·repeat' (first|refine qZa ?_|(refine qZf ?_;try simp only[z06,z01])|(refine qZb ?_;simp (config:=qZc) (disch:=first|omega|rfl) only[sA])|(refine z0n ?_;simp (config:=qZc) (disch:=first|omega|rfl) only[sB,Za,reduceCtorEq,z1y hh])|(refine qZd ?_ ?_;simp (config:=qZc) (disch:=first|omega|rfl) only[sB,Za,reduceCtorEq];refine z05 ?_))
  exact z04 rfl (by simp only[sB,Za,reduceCtorEq];rfl) ⟨by rw[zfq hh],hx'⟩
 (try simp (config:=qZc) (disch:=first|omega|rfl) only[sB,Za,reduceCtorEq,z0x hh]);refine qZm (by simp (config:=qZc) (disch:=first|omega|rfl) only[sB,Za,reduceCtorEq]) ?_;(try refine qZe ?_);(try simp only[z00,z03])
 (repeat refine qZa ?_);refine qZj [([(0,0),(1,0)],some 2),([(3,0)],some 4),([(5,2),(6,2)],none)] (by kernel_rfl) ?_;simp (config:=qZc) (disch:=first|omega|rfl) only[sD,sB,Za,Zb,reduceCtorEq,z8s,ld26,cl75,isAlloc,isRead,q1];have hb:HX H5 ⟨H5.next+7,H5.t⟩:=(HX.refl w5).bump 7;refine(z1i _ _ _ ((rh.mono hx' hw).mono hb w5) hb.wf).mono ?_;rintro v H6 ⟨rfl,hx6⟩;have k56:=hb.trans hx6;have q36:=row6 (k56.get w5 g3)
 repeat' (first|(refine z0q ?_;simp (config:=qZc) (disch:=first|omega|rfl) only[sV,sD,sB,Za,reduceCtorEq,ld26,cl75,q3,q36,isAlloc,isRead]))
 refine(z1i _ _ _ ((rt4.mono hx5 w4).mono k56 w5) hx6.wf).mono ?_;rintro v H7 ⟨rfl,hx7⟩;have k57:=k56.trans hx7;have w7:=hx7.wf;have g1:=k57.get w5 g1;have g3:=k57.get w5 g3;have q1:=z1n g1;have q3:=row6 g3;have hx7':=hx'.trans k57;have cc1:=z4a c.head;have cc2:=z4a (toldB c.body);by_cases h4:400 < cnt c.head 0+cnt (toldB c.body) 0
 ·have hd:decide ((cnt c.head 0:Int)+(cnt (toldB c.body) 0:Int) > 400)=true:=decide_eq_true (by omega)
  repeat' (first|refine qZa ?_|(refine qZf ?_;try simp only[z06,z01])|(refine qZb ?_;simp (config:=qZc) (disch:=first|omega|rfl) only[sA])|(refine z0q ?_;simp (config:=qZc) (disch:=first|omega|rfl) only[sD,sB,Za,Zb,reduceCtorEq,z0d,hd,isAlloc,isRead])|(refine qZd ?_ ?_;simp (config:=qZc) (disch:=first|omega|rfl) only[sB,Za,reduceCtorEq];refine z05 ?_))
  exact z04 rfl (by simp only[sB,Za,reduceCtorEq];rfl) ⟨by rw[zjl hg hh h4],hx7'⟩
 have hd:decide ((cnt c.head 0:Int)+(cnt (toldB c.body) 0:Int) > 400)=false:=decide_eq_false (by omega)
 repeat' (first|refine qZa ?_|(refine qZe ?_;try simp only[z00])|(refine qZb ?_;simp (config:=qZc) (disch:=first|omega|rfl) only[sB,Za,Zb,Value.cells,one,reduceCtorEq,Zn,layC,z8s,ld26,zae,cl77,cl76,q1,q3])|(refine z0q ?_;simp (config:=qZc) (disch:=first|omega|rfl) only[sD,sB,Za,Zb,reduceCtorEq,z0d,hd,isAlloc,isRead])|(refine qZm ?_ ?_;simp (config:=qZc) (disch:=first|omega|rfl) only[sB,Za,reduceCtorEq];refine z05 ?_))
 obtain⟨H8,e8,hx8,g8,hn8,w8⟩:=new1 w7 (.row (six c.head ha hc++six (toldB c.body) ao co) 26);have e8':=e8;simp only[six,List.cons_append,List.nil_append] at e8';simp only[e8'];clear e8 e8';refine(z2t w8).mono ?_;rintro v H9 ⟨rfl,hx9⟩;have w9:=hx9.wf;have k79:=hx8.trans hx9;have hx9':=hx7'.trans k79;have rh9:=rh.mono hx9' hw;have rt9:=((rt4.mono hx5 w4).mono k57 w5).mono k79 w7;have rw9:RepT H9 (wholeC c) (six (wholeC c) (some ⟨H7.next,0,none⟩) 2):=RepT.whole w9 rh9 rt9 (hx9.get w8 g8);refine(zsp (m:=Zd) rw9 w9).mono ?_;obtain⟨⟨m',d,e⟩,hR⟩:∃R,readS Zd (wholeC c)=R:=⟨_,rfl⟩
 rw[hR];rintro v H10 ⟨hx10,csr,ev,rfl,hrc,her⟩;have hrc:RepC H10 (Rg H9.next H10.next) d csr:=hrc;have her:RepES H10 (Rg H9.next H10.next) e ev:=her;obtain⟨ha',hc',ta',tc',a',k',rfl,rh',rb'⟩:=hrc.rd;have w10:=hx10.wf;(try simp (config:=qZc) (disch:=first|omega|rfl) only[sB,dAlloc,Za,Zb,one,reduceCtorEq,zr55,st55]);obtain⟨H11,e11,hx11,g6,hn11,w11⟩:=z0r w10 (.row zero15 55) (.row (fift d.head ha' hc' d.body.kind d.body.term ta' tc' a' d.body.sub.length k' d.vars) 55);simp only[e11];clear e11;have k911:=hx10.trans hx11;have k711:=k79.trans k911;have g1:=k711.get w7 g1;have q1:=z1n g1;have q6:=z1n g6;have hx11':=hx7'.trans k711;by_cases hok:e=.ok;rotate_left
 ·obtain⟨T0,x0,rfl⟩:=her.rep.some hok
  repeat' (first|refine qZa ?_|(refine qZf ?_;try simp only[z06,z01])|(refine qZb ?_;simp (config:=qZc) (disch:=first|omega|rfl) only[sB,Za,reduceCtorEq,ze9])|(refine qZd ?_ ?_;simp (config:=qZc) (disch:=first|omega|rfl) only[sB,Za,reduceCtorEq];refine z05 ?_))
  exact z04 rfl (by simp only[sB,Za,reduceCtorEq];rfl) ⟨by rw[z4v hg hh h4 hR fun q=>hok q.1],hx11'⟩
 subst hok;obtain rfl:ev=.nilIface:=her.rep;by_cases hm:m'=⟨#[]⟩
 rotate_left
 ·have he0:(m'.toList == (⟨#[]⟩:ByteArray).toList)=false:=zah hm
  repeat' (first|refine qZa ?_|(refine qZf ?_;try simp only[z06,z01])|(refine qZb ?_;simp (config:=qZc) (disch:=first|omega|rfl) only[sB,Za,reduceCtorEq,zau,z19,he0,ZH,Ze])|(refine qZd ?_ ?_;simp (config:=qZc) (disch:=first|omega|rfl) only[sB,Za,reduceCtorEq];refine z05 ?_))
  exact z04 rfl (by simp only[sB,Za,reduceCtorEq];rfl) ⟨by rw[z4v hg hh h4 hR fun q=>hm q.2.2],hx11'⟩
 subst hm;have he0:((⟨#[]⟩:ByteArray).toList == (⟨#[]⟩:ByteArray).toList)=true:=z2b rfl;(repeat refine qZa ?_);refine qZb ?_;simp (config:=qZc) (disch:=first|omega|rfl) only[sB,Za,reduceCtorEq,z8s,ld26,cl78,zau,z19,he0,Zq,q1,q6];refine(zef (Zg _) (rh'.mono hx11 w10) (rh.mono hx11' hw) w11).mono ?_;rintro v H12 ⟨rfl,hx12⟩;have g1:=hx12.get w11 g1;have g6:=hx12.get w11 g6;have q1:=z1n g1;have q6:=z1n g6;have w12:=hx12.wf;by_cases h1:d.head=c.head;rotate_left
 ·repeat' (first|refine qZa ?_|(refine qZf ?_;try simp only[z06,z01])|(refine qZb ?_;simp (config:=qZc) (disch:=first|omega|rfl) only[sA])|(refine z0n ?_;simp (config:=qZc) (disch:=first|omega|rfl) only[sB,Za,reduceCtorEq,z3u h1,ZH])|(refine qZd ?_ ?_;simp (config:=qZc) (disch:=first|omega|rfl) only[sB,Za,reduceCtorEq];refine z05 ?_))
  exact z04 rfl (by simp only[sB,Za,reduceCtorEq];rfl) ⟨by rw[z4v hg hh h4 hR fun q=>h1 (by rw[q.2.1])],hx11'.trans hx12⟩
 (try simp (config:=qZc) (disch:=first|omega|rfl) only[sB,Za,reduceCtorEq,zh6,ld53,cl79,z73 h1,Zq,q1,q6]);refine(z6o (Zg _) ((rb'.mono hx11 w10).mono hx12 w11) ((rb.mono hx11' hw).mono hx12 w11) w12).mono ?_
 rintro v H13 ⟨rfl,hx13⟩;have g1:=hx13.get w12 g1;have g6:=hx13.get w12 g6;have q1:=z1n g1;have q6:=z1n g6;by_cases h2:d.body=c.body;rotate_left
 ·repeat' (first|refine qZa ?_|(refine qZf ?_;try simp only[z06,z01])|(refine qZb ?_;simp (config:=qZc) (disch:=first|omega|rfl) only[sA])|(refine z0n ?_;simp (config:=qZc) (disch:=first|omega|rfl) only[sB,Za,reduceCtorEq,z79 h2,ZH])|(refine qZd ?_ ?_;simp (config:=qZc) (disch:=first|omega|rfl) only[sB,Za,reduceCtorEq];refine z05 ?_))
  exact z04 rfl (by simp only[sB,Za,reduceCtorEq];rfl) ⟨by rw[z4v hg hh h4 hR fun q=>h2 (by rw[q.2.1])],(hx11'.trans hx12).trans hx13⟩
 by_cases h3:d.vars=c.vars;rotate_left
 ·repeat' (first|refine qZa ?_|(refine qZf ?_;try simp only[z06,z01])|(refine qZb ?_;simp (config:=qZc) (disch:=first|omega|rfl) only[sA])|(refine z0n ?_;simp (config:=qZc) (disch:=first|omega|rfl) only[sB,Za,reduceCtorEq,zdh,ld3,zcb h2,Zq,q1,q6,z1y h3,Ze])|(refine qZd ?_ ?_;simp (config:=qZc) (disch:=first|omega|rfl) only[sB,Za,reduceCtorEq];refine z05 ?_))
  exact z04 rfl (by simp only[sB,Za,reduceCtorEq];rfl) ⟨by rw[z4v hg hh h4 hR fun q=>h3 (by rw[q.2.1])],(hx11'.trans hx12).trans hx13⟩
 repeat' (first|refine qZa ?_|(refine qZe ?_;try simp only[z00])|(refine qZf ?_)|(refine qZb ?_;simp (config:=qZc) (disch:=first|omega|rfl) only[sA])|(refine z0n ?_;simp (config:=qZc) (disch:=first|omega|rfl) only[sB,Za,reduceCtorEq,zdh,ld3,zcb h2,Zq,q1,q6,z0x h3,Ze])|(refine qZm ?_ ?_;simp (config:=qZc) (disch:=first|omega|rfl) only[sB,Za,reduceCtorEq];refine z05 ?_))
 exact z04 rfl (by simp only[sB,Za,reduceCtorEq];rfl) ⟨by rw[(zmz h1 h2 h3 ▸ zjj hR:GoodC c).chk],(hx11'.trans hx12).trans hx13⟩
noncomputable def wholeV (c:Cls):Tm:=open Classical in if GoodC c then wholeC c else zeroT
def WholeEnd (H:Heap) (c:Cls) (v:Value) (H':Heap):Prop:=HX H H'/\∃out,v=.tuple ⟨[.agg ⟨out⟩,.int .i64 (checkC c)]⟩/\((¬GoodC c/\out=six zeroT none 0) \/
 (GoodC c/\∃(p:Nat) (a1:Option Addr) (c1:Nat) (a2:Option Addr) (c2:Nat),out=six (wholeC c) (some ⟨p,0,none⟩) 2/\H.next<=p/\p < H'.next/\H'.get p=some (.row (six c.head a1 c1++six (toldB c.body) a2 c2) 26)/\RepS H' (Rg H.next H'.next) (wholeC c) out))
def RdCS (H:Heap) (S:Nat->Prop) (c:Cls) (cs:List Value):Prop:=∃ha hc ta tc a k,cs=fift c.head ha hc c.body.kind c.body.term ta tc a c.body.sub.length k c.vars/\RepT H c.head (six c.head ha hc)/\RepBI H S c.body (eightT c.body.kind c.body.term ta tc a c.body.sub.length k)
theorem RdCS.rd {H:Heap}{S:Nat->Prop}{c:Cls}{cs:List Value}(h:RdCS H S c cs):RdC H c cs:=by
 obtain⟨ha,hc,ta,tc,a,k,h1,h2,h3⟩:=h;exact⟨ha,hc,ta,tc,a,k,h1,h2,h3.rep⟩
theorem RdC.bi {A H:Heap}{c:Cls}{cs:List Value}(h:RdC A c cs) (hx:HX A H) (hw:A.wf):RdCS H (fun n=>n < A.next) c cs:=by
 obtain⟨ha,hc,ta,tc,a,k,h1,h2,h3⟩:=h;exact⟨ha,hc,ta,tc,a,k,h1,h2.mono hx hw,(h3.bi hw).to fun n hn hl=>⟨hx.keep n hl,hn,Zh hl hx.next⟩⟩
def LB (H:Heap) (T:TypeId) (E:Nat->Prop) (l:List Bdy) (a:Option Addr) (c:Nat):Prop :=
 (l=[]/\a=none/\c=0)\/∃(b:Nat) (cells:List Value),a=some ⟨b,0,none⟩/\l.length<=c/\c<=maxLen/\H.get b=some (.row cells T)/\¬E b/\b < H.next/\l.length*8<=cells.length/\∀i u,l[i]?=some u->RepBI H E u ((cells.drop (i*8)).take 8)
section
variable {H H':Heap}{T:TypeId}{E E':Nat->Prop}{l:List Bdy}{a:Option Addr}{c:Nat}
theorem LB.nil:LB H T E [] none 0:=.inl ⟨rfl,rfl,rfl⟩
theorem LB.to (h:LB H T E l a c) (hk:∀n,E n\/a=some ⟨n,0,none⟩->n < H.next->H'.get n=H.get n) (hn:H.next<=H'.next) (hs:∀n,E n->E' n) (hne:∀n,a=some ⟨n,0,none⟩->¬E' n):LB H' T E' l a c:=by
 rcases h with h|⟨b,cells,rfl,h1,h2,h3,h4,h5,h6,h7⟩
 ·exact .inl h
 ·exact .inr ⟨b,cells,rfl,h1,h2,(hk b (.inr rfl) h5).trans h3,hne b rfl,Zh h5 hn,h6,fun i u hu=>(h7 i u hu).to fun n hn' hl=>⟨hk n (.inl hn') hl,hs n hn',Zh hl hn⟩⟩
theorem LB.push {P:Program}{t:TypeId}(hp:apOk P t T 8) {E2:Nat->Prop}{u:Bdy}{cs:List Value}{c1:Nat}{ad:Addr}(h:LB H T E l a c) (hw:H.wf) (hl:H.load ad (1*8)=some cs) (hu:RepBI H E2 u cs) (hE:∀n,E2 n->a≠some ⟨n,0,none⟩)
  (hEl:∀n,E n->n < H.next) (hE2l:∀n,E2 n->n < H.next) (hm:l.length+1<=most) (h2:∀n,E n\/E2 n->E' n) (hnew:¬E' H.next) :
  ∃H2,dAp P #[t,t] (.slice a l.length c) (.slice (some ad) 1 c1) H=some (.val (.slice (some ⟨H.next,0,none⟩) (l.length+1) (l.length+1)) H2)/\LB H2 T E' (l++[u]) (some ⟨H.next,0,none⟩) (l.length+1)/\HK (fun n=>a=some ⟨n,0,none⟩) H H2/\H2.next=H.next+1:=by
 have hmax:l.length+1<=maxLen:=Zk hm (by simp [most,maxLen]);obtain⟨hone,hlen⟩:=hu.rep.ones;rcases h with ⟨rfl,rfl,rfl⟩|⟨b,cells,rfl,h1,h2',h3,h4,h5,h6,h7⟩
 ·have hx:=(HX.refl hw).new (some (.row cs T));refine⟨_,z47 hp (by omega) hm hl hone,?_,hx.hk _,rfl⟩;refine .inr ⟨H.next,cs,rfl,Zf _,hmax,z0i,hnew,Zg _,by simp [hlen],fun i v hv=>?_⟩
  match i,hv with
  |0,hv =>
   cases hv;rw[ZL,List.drop_zero,Zl (by omega)];exact hu.to fun n hn hl=>⟨hx.keep n hl,h2 n (.inr hn),Nat.lt_succ_of_lt hl⟩
 ·have hcells:(cells.take (l.length*8)).all one=true:=zsl _ h6 fun i hi=>(h7 i _ (Zc hi)).rep.ones.1
  have hk:HK (fun n=>some (⟨b,0,none⟩:Addr)=some ⟨n,0,none⟩) H ((H.put b none).new (some (.row (cells.take (l.length*8)++cs) T))):=((HK.refl (S:=fun n=>some (⟨b,0,none⟩:Addr)=some ⟨n,0,none⟩) hw).put (.inl rfl) h5 none).new _;have hkeep:∀n,n < H.next->n≠b->((H.put b none).new (some (.row (cells.take (l.length*8)++cs) T))).get n=H.get n:=fun n hn hne=>by
   rw[z1d (by rw[z07];exact hn),z2d hne]
  refine⟨_,z3a hp (by omega) hm hl hone h3 h6 hcells,?_,hk,rfl⟩;have htl:(cells.take (l.length*8)).length=l.length*8:=by rw[Zp];omega
  refine .inr ⟨H.next,cells.take (l.length*8)++cs,rfl,by simp,hmax,z0i,hnew,Zg _,by simp [hlen,htl];omega,fun i v hv=>?_⟩;by_cases hi:i < l.length
  ·rw[ZC hi] at hv;rw[zqs hi _ h6];exact(h7 i v hv).to fun n hn hl=>⟨hkeep n hl fun e=>h4 (e ▸ hn),h2 n (.inl hn),Nat.lt_succ_of_lt hl⟩
  ·have hil:i=l.length:=by
    have:=(List.getElem?_eq_some_iff.1 hv).1;simp at this;omega
   subst hil;simp at hv;subst hv;have e8:((cells.take (l.length*8)++cs).drop (l.length*8)).take 8=cs:=by rw[List.drop_left' htl,Zl (by omega)]
   rw[e8];exact hu.to fun n hn hl=>⟨hkeep n hl fun e=>hE n hn (by rw[e]),h2 n (.inr hn),Nat.lt_succ_of_lt hl⟩
theorem LB.mk {k:Int}{t:Tm}{ts:List Value}(h:LB H T E l a c) (hk:i64 k) (ht:RepS H E' t ts) (he:∀n,E n->E' n) (hb:∀n,a=some ⟨n,0,none⟩->E' n):RepBI H E' (.mk k t l) (eight k ts a l.length c):=by
 rcases h with ⟨rfl,rfl,rfl⟩|⟨b,cells,rfl,h1,h2,h3,h4,h5,h6,h7⟩
 ·exact .mk k t [] ts none 0 (fun _=>[]) hk ht (Zf _) (Zo _) (fun _=>⟨rfl,rfl⟩) (fun i ad hi=>by simp at hi) (fun i u hu=>by simp at hu)
 ·refine .mk k t l ts (some ⟨b,0,none⟩) c (fun i=>(cells.drop (i*8)).take 8) hk ht h1 h2 (fun h=>by cases h) (fun i ad hi ha=>?_) (fun i u hu=>(h7 i u hu).to fun n hn hl=>⟨rfl,he n hn,hl⟩);cases ha;refine⟨rfl,hb b rfl,h5,?_⟩;have hle:i*8+8<=l.length*8:=by omega
  unfold Heap.load Heap.cells;simp only[h3,ZF];rw[if_pos (by rw[Zs,Zp,List.length_drop];omega)]
end
def namedB (s:ByteArray):Bool:=utfS s && decide ((s.size:Int)<=1000)
theorem z9o {s:ByteArray}{H:Heap}(hs:s.size<=maxLen) (hw:H.wf):EvF Tryd.prog okT 44 [.string s] H fun v H'=>v=.bool (namedB s)/\HX H H':=by
 refine EvF.enter rfl Tryd.func44 (by decide) rfl ?_
 repeat' (first|refine qZa ?_|(refine qZb ?_;simp (config:=qZc) (disch:=first|omega|rfl) only[sB,initTm,Za,reduceCtorEq,cl72]))
 refine(z8z _ _ hs hw).mono ?_;rintro v H1 ⟨rfl,hx1⟩;unfold namedB;cases hu:utfS s with
 |true =>
  repeat' (first|(refine qZf ?_)|(refine zkk ?_;simp (config:=qZc) (disch:=first|omega|rfl) only[sB,Za,reduceCtorEq,ln9]))
  exact z04 rfl (by simp only[sB,Za,reduceCtorEq];rfl) ⟨rfl,hx1⟩
 |false =>
  repeat' (first|(refine qZf ?_)|(refine zkk ?_;simp (config:=qZc) (disch:=first|omega|rfl) only[sB,Za,reduceCtorEq,Ze]))
  exact z04 rfl (by simp only[sB,Za,reduceCtorEq];rfl) ⟨rfl,hx1⟩
inductive OwB:Bdy->Prop
 |mk (k:Int) (t:Tm) (l:List Bdy):(t=zeroT\/checkS t=0)->l.length<=3->(∀u∈l,OwB u)->OwB (.mk k t l)
theorem OwB.term {b:Bdy}(h:OwB b):b.term=zeroT\/checkS b.term=0:=by cases h;assumption
theorem OwB.len {b:Bdy}(h:OwB b):b.sub.length<=3:=by cases h;assumption
theorem OwB.sub {b:Bdy}(h:OwB b):∀u∈b.sub,OwB u:=by cases h;assumption
set_option maxHeartbeats 4000000 in
theorem zi1 {t:Tm}{cs:List Value}{H:Heap}(r0:RepT H t cs) (hc:t=zeroT\/checkS t=0) (hw:H.wf) :
  EvF Tryd.prog okT 80 [.agg ⟨cs⟩] H fun v H'=>HX H H'/\∃out,v=.agg ⟨out⟩/\OT H' (Rg H.next H'.next) t out:=by
 obtain⟨a,c,cells,rfl,-⟩:=r0.six;refine EvF.enter rfl Tryd.func80 (by decide) rfl ?_;(repeat refine qZa ?_);refine qZb ?_;simp (config:=qZc) (disch:=first|omega|rfl) only[sB,initTm,dBox,dAlloc,Value.cells,one,zr26];obtain⟨H2,e2,hx2,gt,gq,hn2,hw2⟩:=new2 hw (.row (six t a c) 26) (.row zero6 26);simp only[e2];clear e2;have qt:=row6 gt;(repeat refine qZa ?_);refine qZb ?_;simp (config:=qZc) (disch:=first|omega|rfl) only[sB,Za,reduceCtorEq,ld26,cl81,qt];have rb:RepB7 H2 [] none 0:=⟨Zf _,Zo _,fun i hi=>by simp at hi⟩
 refine(zqr (r0.mono hx2 hw) rb hw2).mono ?_;rintro v H3 ⟨hx3,⟨hp,out,rfl,hrep,htop⟩|⟨hn,e,rfl,he⟩⟩;rotate_left
 ·have ht:t=zeroT:=hc.resolve_right fun q=>hn (zdz q)
  have gq3:=hx3.get hw2 gq;obtain⟨H4,e4,hx4,g4,hn4,hw4⟩:=z0r hx3.wf (.row zero6 26) (.row zero6 26);have gq4:=hx4.get hx3.wf gq3
  repeat' (first|refine qZa ?_|(refine qZf ?_;try simp only[z06,z01])|(refine qZb ?_;simp (config:=qZc) (disch:=first|omega|rfl) only[sB,Za,Zb,Value.cells,one,reduceCtorEq,layC,st26,bd26,z1y he,gq4])|(refine z0n ?_;simp (config:=qZc) (disch:=first|omega|rfl) only[sB,dAlloc,Za,Zb,one,reduceCtorEq,zr26,st26,e4])|(refine qZd ?_ ?_;simp (config:=qZc) (disch:=first|omega|rfl) only[sB,Za,reduceCtorEq];refine z05 ?_))
  subst ht;refine z0b rfl (by simp only[sB,Za,reduceCtorEq];rfl) (by simp only[sB,Zb,cutC,ld26];rfl) ⟨((hx2.trans hx3).trans hx4).pt (by omega) gq4 _,_,rfl,(RepS.leaf z9c rfl (Zo _) fun _=>rfl),?_⟩;exact .inl rfl
 rw[zbz _ t (Zg _)] at hrep htop;obtain⟨a3,c3,z8y,rfl,-⟩:=hrep.rep.six;have gq3:=hx3.get hw2 gq;obtain⟨H4,e4,hx4,g4,hn4,hw4⟩:=z0r hx3.wf (.row zero6 26) (.row (six t a3 c3) 26);have q4:=row6 g4;have gq4:=hx4.get hx3.wf gq3;have n3:=hx3.next
 repeat' (first|refine qZa ?_|(refine qZe ?_;try simp only[z00])|(refine qZf ?_)|(refine qZb ?_;simp (config:=qZc) (disch:=first|omega|rfl) only[sB,Za,Zb,one,reduceCtorEq,ld26,st26,q4,gq4,z0x rfl])|(refine z0n ?_;simp (config:=qZc) (disch:=first|omega|rfl) only[sB,dAlloc,Za,Zb,one,reduceCtorEq,zr26,st26,e4])|(refine qZm ?_ ?_;simp (config:=qZc) (disch:=first|omega|rfl) only[sB,Za,reduceCtorEq];refine z05 ?_))
 refine z0b rfl (by simp only[sB,Za,reduceCtorEq];rfl) (by simp only[sB,Zb,cutC,ld26]) ⟨((hx2.trans hx3).trans hx4).pt (by omega) gq4 _,_,rfl,OT.to ⟨hrep,htop⟩ fun n hn hl=>?_⟩;have:=hn.1;exact⟨by rw[get_put,if_neg (by omega)];exact hx4.keep n hl,⟨by omega,by rw[z07];omega⟩,by rw[z07];omega⟩
abbrev fnv (f:FuncId) (cap:Array Value):Value:=.func (.func f) #[] cap
theorem zi2:callable Tryd.prog 80=true:=by kernel_rfl
theorem zi3:callable Tryd.prog 82=true:=by kernel_rfl
theorem zeh {H:Heap}{p:Nat}{T:TypeId}{x:Value}(h:H.get p=some (.row [x] T)):H.load ⟨p,0,none⟩ 1=some [x]:=by
 simp only[Heap.load,Heap.cells,h];rfl
set_option maxHeartbeats 8000000 in
theorem zp4 {p1 p2:Nat}{m:Nat}:∀{u:Bdy}{cs:List Value}{H:Heap},SizeOf.sizeOf u < m->RepB H u cs->OwB u->H.wf ->
  H.get p1=some (.row [fnv 80 #[]] 159)->H.get p2=some (.row [fnv 82 #[.pointer (some ⟨p1,0,none⟩),.pointer (some ⟨p2,0,none⟩)]] 157) ->
  EvF Tryd.prog okT 82 [.agg ⟨cs⟩,.pointer (some ⟨p1,0,none⟩),.pointer (some ⟨p2,0,none⟩)] H fun v H'=>HX H H'/\∃out,v=.agg ⟨out⟩/\RepBI H' (Rg H.next H'.next) u out:=by
 induction m with
 |zero=>intro u cs H h;omega
 |succ m ih =>
 intro u cs H hsz r hfew hw gp1 gp2;have hlen:=hfew.len;have apB:apOk Tryd.prog 51 53 8:=ap51;obtain⟨ts,a,c,cells,rfl,hk,rt,rl⟩:=r.inv;obtain⟨ta,tc,cellst,rfl,-⟩:=rt.inv;show EvF Tryd.prog okT 82 [.agg ⟨eightT u.kind u.term ta tc a u.sub.length c⟩,.pointer (some ⟨p1,0,none⟩),.pointer (some ⟨p2,0,none⟩)] H _;refine EvF.enter rfl Tryd.func82 (by decide) rfl ?_;(repeat refine qZa ?_);refine qZb ?_;simp (config:=qZc) (disch:=first|omega|rfl) only[sB,initTm,dBox,dAlloc,Zb,Value.cells,one,reduceCtorEq,zr53];obtain⟨H2,e2,hx2,g1,g2,hn2,hw2⟩:=new2 hw (.row (eightT u.kind u.term ta tc a u.sub.length c) 53) (.row zero8 53);simp only[e2];clear e2;have q1:=row8 g1;have lp1:=zeh (hx2.get hw gp1);have hb:HX H2 ⟨H2.next+9,H2.t⟩:=(HX.refl hw2).bump 9
 repeat' (first|refine qZa ?_|(refine qZj (id:=1) [([(2,0),(3,0),(4,0)],some 5),([(0,0),(1,0),(6,1),(7,0)],some 8),([],none)] ?_ ?_;kernel_rfl;simp (config:=qZc) (disch:=first|omega|rfl) only[sD,sB,Za,Zb,reduceCtorEq,ztn,z8u,ld26,q1,lp1,z2e,z1h zi2,isAlloc,isRead]))
 refine(zi1 ((rt.mono hx2 hw).mono hb hw2) hfew.term hb.wf).mono ?_;rintro v H3 ⟨hx3,ot,rfl,hot⟩;obtain⟨oa,oc,cellso,rfl,-⟩:=hot.rep.six;have k23:=hb.trans hx3;have q13:=row8 (k23.get hw2 g1);have n3:H2.next+9<=H3.next:=hx3.next;have ne1:(H.next=H2.next+7)=False:=eq_false (by omega)
 repeat' (first|refine qZa ?_|refine qZg ?_|(refine qZb ?_;simp (config:=qZc) (disch:=first|omega|rfl) only[sB,Za,reduceCtorEq,cutC,z3e,ld51,ln51,q13,ne1])|(refine z0q ?_;simp (config:=qZc) (disch:=first|omega|rfl) only[sV,sD,sB,dAlloc,Za,Zb,Value.cells,one,reduceCtorEq,Zn,layC,zr53,z1j,ld3,bd53,st53,q1,q13,isAlloc,isRead,dalloc]))
 obtain⟨H4,e4⟩:∃H4,(H3.put (H2.next+7) (some (.row zero8 53))).put (H2.next+7) (some (.row (eightT u.kind u.term oa oc none 0 0) 53))=H4:=⟨_,rfl⟩
 have hx4:HX H H4:=by rw[<-e4];exact((hx2.trans k23).put (i:=H2.next+7) (by omega) (by omega) _).put (i:=H2.next+7) (by omega) (by rw[z07];omega) _
 have n4:H4.next=H3.next:=by rw[<-e4];rfl
 have g1:H4.get H.next=some (.row (eightT u.kind u.term ta tc a u.sub.length c) 53):=by rw[<-e4,get_put,if_neg (by omega),get_put,if_neg (by omega)];exact k23.get hw2 g1
 have g2:H4.get (H.next+1)=some (.row zero8 53):=by rw[<-e4,get_put,if_neg (by omega),get_put,if_neg (by omega)];exact k23.get hw2 g2
 have g3:H4.get (H2.next+7)=some (.row (eightT u.kind u.term oa oc none 0 0) 53):=by rw[<-e4,get_put,if_pos rfl]
 have ho:RepS H4 (Rg (H2.next+9) H3.next) u.term (six u.term oa oc):=hot.1.to fun n hn hl=>⟨by have a1:H2.next+9<=n:=hn.1;rw[<-e4,get_put,if_neg (by omega),get_put,if_neg (by omega)],hn,by omega⟩
 simp only[e4];clear e4;have hm:=rl.cap;have hl:=rl.len;have hmx:u.sub.length<=9223372036854775807:=by omega
 refine qZk (fun k' st=>∃tm G i ao co,st=⟨tm,[],G⟩/\k'=u.sub.length - i/\i<=u.sub.length/\tm.get 1=some (.pointer (some ⟨p1,0,none⟩))/\tm.get 2=some (.pointer (some ⟨p2,0,none⟩))/\tm.get 4=some (.pointer (some ⟨H.next+1,0,none⟩))/\tm.get 5=some (.pointer (some ⟨H2.next+7,0,none⟩))/\tm.get 16=some (.slice a u.sub.length c)/\tm.get 17=some (.int .i64 (u.sub.length:Nat))/\tm.get 18=some (.int .i64 (i:Nat)) /\
   G.get (H.next+1)=some (.row zero8 53)/\G.get (H2.next+7)=some (.row (eightT u.kind u.term oa oc ao i co) 53) /\
   RepS G (Rg (H2.next+9) H3.next) u.term (six u.term oa oc)/\LB G 53 (fun n=>(H3.next<=n/\n < G.next)/\ao≠some ⟨n,0,none⟩) (u.sub.take i) ao co/\(∀n,ao=some ⟨n,0,none⟩->H3.next<=n/\n < G.next)/\H3.next<=G.next/\HX H G) ?_ u.sub.length _ ?_
 rotate_left
 ·exact⟨_,_,0,none,0,rfl,rfl,Zo _,(by simp only[sG,Za,reduceCtorEq]),(by simp only[sG,Za,reduceCtorEq]),(by simp only[sG,Za,reduceCtorEq]),(by simp only[sG,Za,reduceCtorEq]),(by simp only[sG,Za,reduceCtorEq]),(by simp only[sG,Za,reduceCtorEq]),(by simp only[sB,Za,reduceCtorEq];rfl),g2,g3,ho,.nil,fun n h=>(by cases h),by omega,hx4⟩
 rintro k' st ⟨tm,G,i,ao,co,rfl,rfl,hi,t1,t2,t4,t5,t16,t17,t18,g2,g3,hoG,hlb,hao,hnG,hxG⟩;have q3:=row8 g3;have wG:=hxG.wf;have lp1:=zeh (hxG.get hw gp1);have lp2:=zeh (hxG.get hw gp2);by_cases hlt:i < u.sub.length;rotate_left
 ·obtain rfl:i=u.sub.length:=by omega
  rw[List.take_length] at hlb
  repeat' (first|refine qZa ?_|(refine qZi ?_;try simp only[sB])|(refine qZf ?_)|(refine qZb ?_;simp (config:=qZc) (disch:=first|omega|rfl) only[sB,Za,Zb,one,st53,ld53,t4,t5,t17,t18,q3,decn hlt,g2])|(refine qZm ?_ ?_;simp (config:=qZc) (disch:=first|omega|rfl) only[sB];refine z05 ?_))
  have hz:=hxG.pt (i:=H.next+1) (by omega) g2 (some (.row (eightT u.kind u.term oa oc ao u.sub.length co) 53));refine z0b rfl (by simp only[sB,Za,t4];rfl) (by simp only[sB,Zb,cutC,ld53];rfl) ⟨hz,_,rfl,?_⟩;obtain⟨ku,tu,lu⟩:=u;refine LB.mk (E':=Rg H.next (G.put (H.next+1) (some (.row (eightT ku tu oa oc ao lu.length co) 53))).next) (hlb.to (E':=fun n=>(H3.next<=n/\n < G.next)/\ao≠some ⟨n,0,none⟩) (fun n hn hl=>?_) (by rw[z07];exact Zf _) (fun n hn=>hn) fun n hn h=>h.2 hn) hk (hoG.to fun n hn hl=>?_) (fun n hn=>?_) fun n hn=>?_
  ·rw[get_put,if_neg];rcases hn with hn|hn
   ·omega
   ·have:=hao n hn;omega
  ·have a1:H2.next+9<=n:=hn.1;exact⟨by rw[get_put,if_neg (by omega)],⟨by omega,by rw[z07];exact hl⟩,by rw[z07];exact hl⟩
  ·exact⟨by omega,by rw[z07];omega⟩
  ·have:=hao n hn;exact⟨by omega,by rw[z07];omega⟩
 obtain⟨b,o,rfl,hld,hr1⟩:=rl.el hlt;obtain⟨ua,uc,va,vc,hc1⟩:=hr1.eight;rw[hc1] at hr1 hld;have hld1:=hxG.load hw hld;obtain⟨G1,eG1,hxG1,gG1,nG1,wG1⟩:=z0r wG (.row zero8 53) (.row (eightT u.sub[i].kind u.sub[i].term ua uc va u.sub[i].sub.length vc) 53);have qG1:=row8 gG1;have lp1:=zeh (hxG1.get wG (hxG.get hw gp1));have lp2:=zeh (hxG1.get wG (hxG.get hw gp2))
 repeat' (first|refine qZa ?_|refine qZg ?_|(refine qZe ?_;try simp only[z00])|(refine qZb ?_;simp (config:=qZc) (disch:=first|omega|rfl) only[sB,dAlloc,Za,Zb,one,zr53,st53,ia51,ld53,t16,t17,t18,decl hlt,hld1,eG1])|(refine qZj (id:=5) [([(2,0),(3,0)],some 4),([(0,0),(1,0),(5,1)],some 6),([(7,2)],some 8),([],none)] ?_ ?_;kernel_rfl;simp (config:=qZc) (disch:=first|omega|rfl) only[sD,sB,Za,Zb,reduceCtorEq,ld53,zto,t2,qG1,lp2,z2e,z1h zi3,isAlloc,isRead])|(refine qZd ?_ ?_;simp (config:=qZc) (disch:=first|omega|rfl) only[sB];refine z05 ?_))
 have hs:=u.size _ (Zz hlt);have hbG:HX G ⟨G1.next+9,G1.t⟩:=hxG1.bump 9;have wb:=hbG.wf;refine(ih (u:=u.sub[i]) (by omega) ((hr1.mono hxG hw).mono hbG wG) (hfew.sub _ (Zz _)) wb (hbG.get wG (hxG.get hw gp1)) (hbG.get wG (hxG.get hw gp2))).mono ?_;rintro v H5 ⟨hx5,out,rfl,hrep⟩;obtain⟨xa,xc,ya,yc,cells5,rfl,-⟩:=hrep.inv;have k5:=hbG.trans hx5;have q35:=row8 (k5.get wG g3);have q3b:=row8 (hbG.get wG g3);have w5:=hx5.wf;have n5:G1.next+9<=H5.next:=hx5.next;obtain⟨H6,e6⟩:∃H6,H5.put (G1.next+5) (some (.row (eightT u.sub[i].kind u.sub[i].term xa xc ya u.sub[i].sub.length yc) 53))=H6:=⟨_,rfl⟩
 have hx6:HX G H6:=by rw[<-e6];exact k5.put (i:=G1.next+5) (by omega) (by omega) _
 have n6:H6.next=H5.next:=by rw[<-e6];rfl
 have g6:H6.get (G1.next+5)=some (.row (eightT u.sub[i].kind u.sub[i].term xa xc ya u.sub[i].sub.length yc) 53):=by rw[<-e6,get_put,if_pos rfl]
 have w6:=hx6.wf;have hrep6:RepBI H6 (Rg (G1.next+9) H5.next) u.sub[i] (eightT u.sub[i].kind u.sub[i].term xa xc ya u.sub[i].sub.length yc):=hrep.to fun n hn hl=>⟨by have a1:G1.next+9<=n:=hn.1;rw[<-e6,get_put,if_neg (by omega)],hn,by omega⟩
 have etl:(u.sub.take i).length=i:=by rw[Zp];omega
 obtain⟨H7,e7,hlb7,hk7,hn7⟩:=LB.push (P:=Tryd.prog) (t:=51) (E':=fun n=>(H3.next<=n/\n < H6.next+1)/\(some ⟨H6.next,0,none⟩:Option Addr)≠some ⟨n,0,none⟩) (E2:=Rg (G1.next+9) H5.next) (u:=u.sub[i]) (c1:=1) apB
  (hlb.to (H':=H6) (E':=fun n=>(H3.next<=n/\n < G.next)/\ao≠some ⟨n,0,none⟩) (fun n _ hl=>hx6.keep n hl) hx6.next (fun n hn=>hn) fun n hn h=>h.2 hn) w6 (ld1 g6 rfl) hrep6
  (fun n hn ha=>by have:=hao n ha;have a1:G1.next+9<=n:=hn.1;omega) (fun n hn=>by have:=hn.1.2;omega) (fun n hn=>by have a1:n < H5.next:=hn.2;omega) (by rw[etl];unfold most;omega) (fun n hn=>by
   rcases hn with hn|hn
   ·exact⟨⟨hn.1.1,by omega⟩,fun e=>by injection e with e;injection e with e;have:=hn.1.2;omega⟩
   ·have a1:G1.next+9<=n:=hn.1;have a2:n < H5.next:=hn.2;exact⟨⟨by omega,by omega⟩,fun e=>by injection e with e;injection e with e;omega⟩) (fun h=>h.2 rfl)
 rw[etl] at e7 hlb7;have ha:∀n,n < H3.next->ao≠some ⟨n,0,none⟩:=fun n hn h=>by have:=hao _ h;omega
 have g27:=hk7.get w6 (hx6.get wG g2) (ha _ (by omega));have g37:=hk7.get w6 (hx6.get wG g3) (ha _ (by omega));have hx7:HX H H7:=(hxG.trans hx6).then hk7 fun n hn h=>by have:=hao _ h;omega
 have ho7:RepS H7 (Rg (H2.next+9) H3.next) u.term (six u.term oa oc):=hoG.to fun n hn hl=>⟨by
  have a1:n < H3.next:=hn.2;rw[hk7.keep n (by omega) (ha n a1)];exact hx6.keep n hl,hn,by omega⟩
 have ee:dAp Tryd.prog #[51,51] (.slice ao i co) (.slice (some ⟨G1.next+5,0,none⟩) 1 1) (H5.put (G1.next+5) (some (.row (eightT u.sub[i].kind u.sub[i].term xa xc ya u.sub[i].sub.length yc) 53)))=some (.val (.slice (some ⟨H6.next,0,none⟩) (i+1) (i+1)) H7):=by rw[e6];exact e7
 repeat' (first|(refine qZb ?_;simp (config:=qZc) (disch:=first|omega|rfl) only[sB,Za,t18,z0d])|(refine z0q ?_;simp (config:=qZc) (disch:=first|omega|rfl) only[sV,sD,sB,Za,Zb,Value.cells,one,reduceCtorEq,layC,z3e,ld51,zl4,st51,q35,q3b,t5,ee,g37,isAlloc,isRead,dalloc]))
 have lp:H2.next+7 < H7.next:=by omega
 refine⟨u.sub.length - (i+1),by omega,_,_,i+1,some ⟨H6.next,0,none⟩,i+1,rfl,rfl,by omega,(by simp only[sG,Za,t1]),(by simp only[sG,Za,t2]),(by simp only[sG,Za,t4]),(by simp only[sG,Za,t5]),(by simp only[sG,Za,t16]),(by simp only[sG,Za,t17]),(by simp only[sB,Za];rfl),by rw[get_put,if_neg (by omega)];exact g27,by rw[get_put,if_pos rfl],ho7.to fun n hn hl=>⟨by have a1:H2.next+9<=n:=hn.1;rw[get_put,if_neg (by omega)],hn,by rw[z07];exact hl⟩,?_,fun n h=>by injection h with h;injection h with h;rw[z07];omega,by rw[z07];omega,hx7.pt (by omega) g37 _⟩;rw[<-List.take_append_getElem hlt];refine hlb7.to (fun n hn hl=>?_) (by rw[z07];exact Zf _) (fun n hn=>⟨⟨hn.1.1,by rw[z07,hn7];exact hn.1.2⟩,hn.2⟩) fun n h hn=>hn.2 h
 rw[get_put,if_neg];rcases hn with hn|hn
 ·omega
 ·injection hn with hn;injection hn with hn;omega
theorem z7z {t:Tm}(hf:Fine t) (hn:nd t<=4000):checkS t=0:=z0h.2 ⟨by rw[z3z _ _ (Zg _) 0 (by omega)];omega,hf⟩
theorem zuq {t:Tm}{b:Bdy}(hf:Fine t) (h:BdR t b) (hn:szB b<=4000):OwB b:=by
 induction h with
 |var h=>exact .mk _ _ _ (.inr (z7z (z6n zc9 hf) (by rw[z7o] at hn;simp only[callB,Bdy.term] at hn;omega))) (by simp) (fun u hu=>by simp at hu)
 |tru h1 h2=>exact .mk _ _ _ (.inl rfl) (by simp) (fun u hu=>by simp at hu)
 |cut h1 h2=>exact .mk _ _ _ (.inl rfl) (by simp) (fun u hu=>by simp at hu)
 |mcall h h1 h2 h3=>exact .mk _ _ _ (.inr (z7z (z6n zc9 hf) (by rw[z7o] at hn;simp only[callB,Bdy.term] at hn;omega))) (by simp) (fun u hu=>by simp at hu)
 |mod h h1 h2 h3 hb ih =>
  simp only[szB,szB.szBL] at hn;exact .mk _ _ _ (.inr (z7z (h.fine hf).1 (by omega))) (by simp) (fun u hu=>by rw[List.mem_singleton.1 hu];exact ih (h.fine hf).2 (by omega))
 |and h hb hd i1 i2 =>
  simp only[szB,szB.szBL] at hn;exact .mk _ _ _ (.inl rfl) (by simp) (fun u hu=>by simp only[List.mem_cons,List.not_mem_nil,or_false] at hu;rcases hu with rfl|rfl;exact i1 (h.fine hf).1 (by omega);exact i2 (h.fine hf).2 (by omega))
 |arr h hb hd i1 i2 =>
  simp only[szB,szB.szBL] at hn;exact .mk _ _ _ (.inl rfl) (by simp) (fun u hu=>by simp only[List.mem_cons,List.not_mem_nil,or_false] at hu;rcases hu with rfl|rfl;exact i1 (h.fine hf).1 (by omega);exact i2 (h.fine hf).2 (by omega))
 |ite h hg hb hd he i1 i2 i3 =>
  simp only[szB,szB.szBL] at hn;exact .mk _ _ _ (.inl rfl) (by simp) (fun u hu=>by
   simp only[List.mem_cons,List.not_mem_nil,or_false] at hu;rcases hu with rfl|rfl|rfl
   ·exact i1 (hg.fine (h.fine hf).1).1 (by omega)
   ·exact i2 (hg.fine (h.fine hf).1).2 (by omega)
   ·exact i3 (h.fine hf).2 (by omega))
 |or h hn' hb hd i1 i2 =>
  simp only[szB,szB.szBL] at hn;exact .mk _ _ _ (.inl rfl) (by simp) (fun u hu=>by simp only[List.mem_cons,List.not_mem_nil,or_false] at hu;rcases hu with rfl|rfl;exact i1 (h.fine hf).1 (by omega);exact i2 (h.fine hf).2 (by omega))
 |call h=>exact .mk _ _ _ (.inr (z7z hf (by rw[z7o] at hn;simp only[Bdy.term] at hn;omega))) (by simp) (fun u hu=>by simp at hu)
theorem GoodC.owb {c:Cls}(h:GoodC c):OwB c.body:=by
 obtain⟨u,h1,h2⟩:=h.good.ex;have h3:=(zmm h1 h2).2;have h4:=h.few;exact zuq h1 h2 (by omega)
def RepD (H:Heap) (S:Nat->Prop) (c:Cls) (cs:List Value):Prop:=∃ha hc ta tc a k,cs=fift c.head ha hc c.body.kind c.body.term ta tc a c.body.sub.length k c.vars/\RepS H S c.head (six c.head ha hc)/\RepBI H S c.body (eightT c.body.kind c.body.term ta tc a c.body.sub.length k)
theorem RepD.rd {H:Heap}{S:Nat->Prop}{c:Cls}{cs:List Value}(h:RepD H S c cs):RdC H c cs:=by
 obtain⟨ha,hc,ta,tc,a,k,h1,h2,h3⟩:=h;exact⟨ha,hc,ta,tc,a,k,h1,h2.rep,h3.rep⟩
theorem RepD.to {H H':Heap}{S S':Nat->Prop}{c:Cls}{cs:List Value}(h:RepD H S c cs) (hk:∀n,S n->n < H.next->H'.get n=H.get n/\S' n/\n < H'.next):RepD H' S' c cs:=by
 obtain⟨ha,hc,ta,tc,a,k,h1,h2,h3⟩:=h;exact⟨ha,hc,ta,tc,a,k,h1,h2.to hk,h3.to hk⟩
theorem RepD.len {H:Heap}{S:Nat->Prop}{c:Cls}{cs:List Value}(h:RepD H S c cs):cs.length=15/\cs.all one=true:=by
 obtain⟨ha,hc,ta,tc,a,k,rfl,-,-⟩:=h;exact⟨rfl,rfl⟩
set_option maxHeartbeats 4000000 in
theorem zn0 {c:Cls}{cs:List Value}{H:Heap}(r:RdC H c cs) (hh:c.head=zeroT\/checkS c.head=0) (hb':OwB c.body) (hw:H.wf) :
  EvF Tryd.prog okT 46 [.agg ⟨cs⟩] H fun v H'=>HX H H'/\∃out,v=.agg ⟨out⟩/\RepD H' (Rg H.next H'.next) c out:=by
 obtain⟨ha,hc,ta,tc,a,k,rfl,rh,rb⟩:=r;refine EvF.enter rfl Tryd.func46 (by decide) rfl ?_;(repeat refine qZa ?_);refine qZb ?_;simp (config:=qZc) (disch:=first|omega|rfl) only[sB,initTm,dBox,dAlloc,Value.cells,one,zr55];obtain⟨H2,e2,hx2,g1,g2,hn2,hw2⟩:=new2 hw (.row (fift c.head ha hc c.body.kind c.body.term ta tc a c.body.sub.length k c.vars) 55) (.row zero15 55);simp only[e2];clear e2;have q1:=z1n g1;have hgl:∃G,(((H2.new (some (.row [Value.nilFunc] 157))).new (some (.row [Value.nilFunc] 159))).put (H2.next+1) (some (.row [fnv 80 #[]] 159))).put H2.next (some (.row [fnv 82 #[.pointer (some ⟨H2.next+1,0,none⟩),.pointer (some ⟨H2.next,0,none⟩)]] 157))=G /\
   HX H2 G/\G.get H2.next=some (.row [fnv 82 #[.pointer (some ⟨H2.next+1,0,none⟩),.pointer (some ⟨H2.next,0,none⟩)]] 157)/\G.get (H2.next+1)=some (.row [fnv 80 #[]] 159)/\G.next=H2.next+2:=by
  refine⟨_,rfl,((((HX.refl hw2).new _).new _).put (i:=H2.next+1) (by omega) (Zg _) _).put (i:=H2.next) (Zf _) (by show H2.next < H2.next+2;omega) _,by rw[get_put,if_pos rfl],by rw[get_put,if_neg (by omega),get_put,if_pos rfl],rfl⟩
 obtain⟨G,eG,hxG,gp2,gp1,nG⟩:=hgl;have wG:=hxG.wf;have gG:=hxG.get hw2 g1;have qG:=z1n gG;have lp1:=zeh gp1;have lp2:=zeh gp2;have ne1:(H2.next=H2.next+1)=False:=eq_false (by omega)
 repeat' (first|refine qZa ?_|(refine qZb ?_;simp (config:=qZc) (disch:=first|omega|rfl) only[sB,dAlloc,Za,one,reduceCtorEq,zve,zvf,zvg,zvh,ne1,List.map_toArray,eG])|(refine qZj [([(0,0),(1,0),(2,0)],some 3),([(4,0),(5,0),(6,0)],some 7),([(8,0),(9,0),(10,2)],some 11),([],none)] ?_ ?_;kernel_rfl;simp (config:=qZc) (disch:=first|omega|rfl) only[sD,sB,Za,Zb,reduceCtorEq,ztn,z8s,ld26,qG,lp1,z2e,z1h zi2,isAlloc,isRead]))
 have hb:=(HX.refl wG).bump 12;refine(zi1 (((rh.mono hx2 hw).mono hxG hw2).mono hb wG) hh hb.wf).mono ?_;rintro v H3 ⟨hx3,ot,rfl,hot⟩;obtain⟨oa,oc,cellso,rfl,-⟩:=hot.rep.six;have k3:=hb.trans hx3;have w3:=hx3.wf;have g13:=k3.get wG gG;have q13:=z1n g13;have lp23:=zeh (k3.get wG gp2)
 repeat' (first|(refine z0q ?_;simp (config:=qZc) (disch:=first|omega|rfl) only[sV,sD,sB,Za,reduceCtorEq,zto,zh6,ld53,qG,q13,lp2,lp23,z2e,z1h zi3,isAlloc,isRead,Bool.and_true]))
 refine⟨by simp [veq,veqL],?_⟩;refine(zp4 (Zg _) (((rb.mono hx2 hw).mono hxG hw2).mono k3 wG) hb' w3 (k3.get wG gp1) (k3.get wG gp2)).mono ?_;rintro v H4 ⟨hx4,out,rfl,hrep⟩;obtain⟨xa,xc,ya,yc,cells5,rfl,-⟩:=hrep.inv;have k4:=k3.trans hx4;have q14:=z1n (k4.get wG gG);have g24:=k4.get wG (hxG.get hw2 g2);have n3:G.next+12<=H3.next:=hx3.next;have n4:=hx4.next
 repeat' (first|(refine qZf ?_)|(refine z0q ?_;simp (config:=qZc) (disch:=first|omega|rfl) only[sV,sD,sB,Za,Zb,Value.cells,one,reduceCtorEq,Zn,layC,zdh,ld3,bd55,st55,qG,q13,q14,g24,isAlloc,isRead]))
 have hz:=((hx2.trans hxG).trans k4).pt (i:=H.next+1) (by omega) g24 (some (.row (fift c.head oa oc c.body.kind c.body.term xa xc ya c.body.sub.length yc c.vars) 55));refine z0b rfl (by simp only[sB,Za,reduceCtorEq];rfl) (by simp only[sB,Zb,cutC,ld55]) ⟨hz,_,rfl,oa,oc,xa,xc,ya,yc,rfl,?_,?_⟩
 ·exact hot.1.to fun n hn hl=>⟨by have a1:G.next+12<=n:=hn.1;rw[get_put,if_neg (by omega)];exact hx4.keep n hl,⟨by have a1:G.next+12<=n:=hn.1;omega,by rw[z07];omega⟩,by rw[z07];omega⟩
 ·exact hrep.to fun n hn hl=>⟨by have a1:H3.next<=n:=hn.1;rw[get_put,if_neg (by omega)],⟨by have a1:H3.next<=n:=hn.1;omega,by rw[z07];exact hl⟩,by rw[z07];exact hl⟩
end Go.Proofs.hq
end

section
namespace Go.Hb
open Go Go.RowKit
section
variable {P:Program}{kt:TypeId}{α:Type}{key:α->Value}{eqb:α->α->Bool}
theorem zax (h:∀x a,pureRun P (Op.equal kt (key x) (key a))=some (eqb x a)) (x:α):∀(es:List MapEntry) (l:List α) (i:Nat),es.map (·.key)=l.map key ->
  pureRun P (Instr.findAsking kt (key x) (keysOf es) i)=some ((l.findIdx? (eqb x)).map fun j=>(i+j,.bool false))
 |[],[],i,_=>rfl
 |[],_ :: _,_,hk=>by simp at hk
 |_ :: _,[],_,hk=>by simp at hk
 |e :: es,a :: l,i,hk=>by
  simp only[Zx,List.cons.injEq] at hk;have ih:=zax h x es l (i+1) hk.2;unfold keysOf at ih ⊢;rw[Zx];unfold Instr.findAsking;simp only[hk.1];rw[z08,h,Zw,List.findIdx?_cons];cases hq:eqb x a with
  |true=>rfl
  |false =>
   simp only[Ze,if_false];rw[ih];cases l.findIdx? (eqb x) with
   |none=>rfl
   |some j=>simp only[Option.map_some,Option.some.injEq,Prod.mk.injEq,and_true];omega
structure KeyOf (P:Program) (kt:TypeId) (key:α->Value) (eqb:α->α->Bool):Prop where
 un:∃fs,P.underlying kt=some (.struct fs)
 eq:∀x a,pureRun P (Op.equal kt (key x) (key a))=some (eqb x a)
 chk:∀emp x,pureRun P (Instr.checkKey emp 10000 kt (key x))=some ()
 fl:∀x,flat (key x)=true
theorem z6p (K:KeyOf P kt key eqb) {emp:Bool}{es:List MapEntry}{l:List α}{x:α}(hk:es.map (·.key)=l.map key):dfind P emp kt (key x) es=some (l.findIdx? (eqb x)):=by
 obtain⟨fs,hu⟩:=K.un;have hu':pureRun P (underlying kt)=some (.struct fs):=z0l hu;have h2:pureRun P (Instr.findKey kt (key x) (keysOf es))=some ((l.findIdx? (eqb x)).map fun j=>(j,.bool false)):=by
  unfold Instr.findKey;rw[z08,hu',Zw];have ha:=zax K.eq x es l 0 hk
  match es,l,hk with
  |[],[],_=>rfl
  |[],_ :: _,hk=>simp at hk
  |_ :: _,[],hk=>simp at hk
  |e :: es,a :: l,hk =>
   have hn:Instr.findNow (.struct fs) (key x) (keysOf (e :: es)) 0=none:=by
    unfold keysOf;rw[Zx];unfold Instr.findNow;rfl
   rw[hn];simp only[ZF] at ha;exact ha
 unfold dfind;rw[K.chk,h2,K.fl];simp only[];cases l.findIdx? (eqb x)<;>rfl
end
end Go.Hb
end

section
namespace Go.Hb
open Go Go.RowKit
section
variable {P:Program}{kt:TypeId}{α:Type}{key:α->Value}{eqb:α->α->Bool}
def MapK (key:α->Value) (H:Heap) (r:Nat) (M:List (α × Value)):Prop:=∃es clock,H.get r=some (.map es clock)/\es.map (fun e=>(e.key,e.val))=M.map fun p=>(key p.1,p.2)
theorem MapK.heap {H H':Heap}{r:Nat}{M:List (α × Value)}(h:MapK key H r M) (hk:H'.get r=H.get r):MapK key H' r M:=by
 obtain⟨es,clock,hg,he⟩:=h;exact⟨es,clock,hk.trans hg,he⟩
theorem z6q {es:List MapEntry}{M:List (α × Value)}(h:es.map (fun e=>(e.key,e.val))=M.map fun p=>(key p.1,p.2)):es.map (·.key)=(M.map (·.1)).map key:=by
 have:=congrArg (List.map Prod.fst) h;simpa [List.map_map,Function.comp_def] using this
def kIdx (eqb:α->α->Bool) (M:List (α × Value)) (x:α):Option Nat:=(M.map (·.1)).findIdx? (eqb x)
variable {t et:TypeId}{z:Value}{H:Heap}{r:Nat}{M:List (α × Value)}{x:α}
theorem zei (K:KeyOf P kt key eqb) (ht:P.underlying t=some (.map kt et)) (hm:MapK key H r M) {i:Nat}{y:α}{v:Value}(hi:kIdx eqb M x=some i) (hM:M[i]?=some (y,v)) {ok:Bool} :
  dLk P t (.map (some r)) (key x) ok H=some (.val (if ok then .tuple #[v,.bool true] else v) H):=by
 obtain⟨es,clock,hg,he⟩:=hm;have hf:∀emp,dfind P emp kt (key x) es=some (kIdx eqb M x):=fun emp=>z6p K (z6q he)
 have hi2:∃e,es[i]?=some e/\e.val=v:=by
  have:=congrArg (·[i]?) he;simp only[Zv,hM,Option.map_some,Option.map_eq_some_iff,Prod.mk.injEq] at this;obtain⟨e,h8,-,h9⟩:=this;exact⟨e,h8,h9⟩
 obtain⟨e,h8,h9⟩:=hi2;simp only[dLk,dlookup,ht,hg,hf,hi,h8,h9]
theorem zej (K:KeyOf P kt key eqb) (ht:P.underlying t=some (.map kt et)) (hz:pureRun P (zeroValue et)=some z) (hzf:flat z=true) (hm:MapK key H r M) (hi:kIdx eqb M x=none) {ok:Bool} :
  dLk P t (.map (some r)) (key x) ok H=some (.val (if ok then .tuple #[z,.bool false] else z) H):=by
 obtain⟨es,clock,hg,he⟩:=hm;have hf:∀emp,dfind P emp kt (key x) es=some (kIdx eqb M x):=fun emp=>z6p K (z6q he)
 simp only[dLk,dlookup,ht,hg,hf,hi,hz,hzf,if_true]
theorem zi4 (K:KeyOf P kt key eqb) (ht:P.underlying t=some (.map kt et)) (hm:MapK key H r M) (hi:kIdx eqb M x=none) {v:Value} :
  ∃B,dUp P t (.map (some r)) (key x) v H=some (.val undef (H.put r (some B)))/\MapK key (H.put r (some B)) r (M++[(x,v)]):=by
 obtain⟨es,clock,hg,he⟩:=hm;have hf:∀emp,dfind P emp kt (key x) es=some (kIdx eqb M x):=fun emp=>z6p K (z6q he)
 refine⟨.map (es++[{ key:=key x,val:=v,born:=clock }]) (clock+1),by simp only[dUp,dupdate,ht,hg,hf,hi],⟨_,_,by rw[Heap.get_put,if_pos rfl],?_⟩⟩;rw[ZB,ZB,he];rfl
def dDel (P:Program) (t:TypeId) (m k:Value) (H:Heap):Option Dr:=ddelete P t m k H
theorem z1g {β γ:Type}(f:β->γ):∀(l:List β) (i:Nat),(l.eraseIdx i).map f=(l.map f).eraseIdx i
 |[],_=>rfl
 |_ :: _,0=>rfl
 |a :: l,i+1=>by rw[List.eraseIdx_cons_succ,Zx,Zx,List.eraseIdx_cons_succ,z1g f l i]
theorem zur (K:KeyOf P kt key eqb) (ht:P.underlying t=some (.map kt et)) (hm:MapK key H r M) {i:Nat}(hi:kIdx eqb M x=some i) :
  ∃B,dDel P t (.map (some r)) (key x) H=some (.val undef (H.put r (some B)))/\MapK key (H.put r (some B)) r (M.eraseIdx i):=by
 obtain⟨es,clock,hg,he⟩:=hm;have hf:∀emp,dfind P emp kt (key x) es=some (kIdx eqb M x):=fun emp=>z6p K (z6q he)
 refine⟨.map (es.eraseIdx i) clock,by simp only[dDel,ddelete,ht,hg,hf,hi],⟨_,_,by rw[Heap.get_put,if_pos rfl],?_⟩⟩;rw[z1g,he,<-z1g]
theorem zjn (K:KeyOf P kt key eqb) (ht:P.underlying t=some (.map kt et)) (hm:MapK key H r M) (hi:kIdx eqb M x=none) :
  dDel P t (.map (some r)) (key x) H=some (.val undef H):=by
 obtain⟨es,clock,hg,he⟩:=hm;have hf:∀emp,dfind P emp kt (key x) es=some (kIdx eqb M x):=fun emp=>z6p K (z6q he)
 simp only[dDel,ddelete,ht,hg,hf,hi]
end
section
variable {P:Program}{H:Heap}{d:Option Tmp}{ty:TypeId}{pos:String}{af:Array Edge}{g:Option (Nat × Bool)}{ρ:Operand->Value}
theorem zay {m k:Operand}{t u:TypeId}:dop P ⟨d,.call ⟨.builtin .delete,#[m,k],#[t,u]⟩,ty,pos,af,g⟩ ρ H=dDel P t (ρ m) (ρ k) H:=_root_.id rfl
end
end Go.Hb
end

section
namespace Go.Hb
open Go Go.RowKit
inductive Fld where
 |sl (e:TypeId) (w:Nat) (L:List (List Value))
 |mp (M:List (Value × Value))
 |vl (x:Value)
def blkOf:Value->Option Nat
 |.slice (some a) _ _=>some a.block
 |.map (some r)=>some r
 |_=>none
def FR (H:Heap) (B:Nat):Fld->Value->Prop
 |.sl e w L,v=>RepO H e w B L v
 |.mp M,v=>∃r es clock,v=.map (some r)/\B<=r/\r < H.next/\H.get r=some (.map es clock)/\es.map (fun e=>(e.key,e.val))=M
 |.vl x,v=>v=x/\blkOf v=none
structure StR (H:Heap) (B s:Nat) (T:TypeId) (F:List Fld) (V:List Value):Prop where
 obj:H.get s=some (.row V T)
 ge:B<=s
 len:F.length=V.length
 fld:∀(i:Nat) f v,F[i]?=some f->V[i]?=some v->FR H B f v
 apart:∀(i j:Nat) v u n,V[i]?=some v->V[j]?=some u->blkOf v=some n->blkOf u=some n->i=j
 off:∀(i:Nat) v,V[i]?=some v->blkOf v≠some s
 ones:V.all one=true
def Mut (H:Heap) (s n:Nat):Prop:=n=s\/∃V T,H.get s=some (.row V T)/\∃v∈V,blkOf v=some n
structure SX (s:Nat) (H H':Heap):Prop where
 hk:HK (Mut H s) H H'
 mt:∀n,Mut H' s n->Mut H s n\/H.next<=n
theorem SX.wf {s:Nat}{H H':Heap}(h:SX s H H'):H'.wf:=h.hk.wf
theorem SX.next {s:Nat}{H H':Heap}(h:SX s H H'):H.next<=H'.next:=h.hk.next
theorem SX.refl {s:Nat}{H:Heap}(hw:H.wf):SX s H H:=⟨HK.refl hw,fun _ h=>.inl h⟩
theorem SX.trans {s:Nat}{A B C:Heap}(h:SX s A B) (k:SX s B C):SX s A C :=
 ⟨h.hk.step k.hk fun n hn q=>by rcases h.mt n q with q|q;exact q;omega,fun n q=>by
  rcases k.mt n q with q|q
  ·exact h.mt n q
  ·exact .inr (Zk h.next q)⟩
theorem HX.sx {s:Nat}{H H':Heap}(h:HX H H') (hs:s < H.next):SX s H H' :=
 ⟨h.hk _,fun n q=>by
  rcases q with q|⟨V,T,hg,q⟩
  ·exact .inl (.inl q)
  ·exact .inl (.inr ⟨V,T,(h.keep s hs).symm.trans hg,q⟩)⟩
theorem SX.get {s n:Nat}{H H':Heap}(h:SX s H H') (hn:n < H.next) (hm:¬Mut H s n):H'.get n=H.get n:=h.hk.keep n hn hm
section
variable {H:Heap}{B s:Nat}{T:TypeId}{F:List Fld}{V:List Value}
theorem FR.lo {f:Fld}{v:Value}{n:Nat}(h:FR H B f v) (hn:blkOf v=some n):B<=n/\n < H.next:=by
 cases f with
 |sl e w L =>
  rcases h with ⟨rfl,rfl⟩|⟨b,c,h,rfl⟩
  ·cases hn
  ·cases hn;exact⟨h.lo,h.hi⟩
 |mp M =>
  obtain⟨r,es,clock,rfl,h1,h2,-⟩:=h;cases hn;exact⟨h1,h2⟩
 |vl x=>rw[h.2] at hn;cases hn
theorem FR.heap {f:Fld}{v:Value}(h:FR H B f v) {H':Heap}(hk:∀n,blkOf v=some n->H'.get n=H.get n) (hn:H.next<=H'.next):FR H' B f v:=by
 cases f with
 |sl e w L =>
  rcases h with h|⟨b,c,h,rfl⟩
  ·exact .inl h
  ·exact .inr ⟨b,c,h.heap (hk b rfl) hn,rfl⟩
 |mp M =>
  obtain⟨r,es,clock,rfl,h1,h2,h3,h4⟩:=h;exact⟨r,es,clock,rfl,h1,Zh h2 hn,(hk r rfl).trans h3,h4⟩
 |vl x=>exact h
theorem StR.has (h:StR H B s T F V) {i:Nat}{v:Value}(hv:V[i]?=some v):∃f,F[i]?=some f/\FR H B f v:=by
 have hi:i < F.length:=by rw[h.len];exact(List.getElem?_eq_some_iff.1 hv).1
 exact⟨F[i],Zc hi,h.fld i _ _ (Zc hi) hv⟩
theorem StR.mlo (h:StR H B s T F V) {n:Nat}(hn:Mut H s n):B<=n:=by
 rcases hn with rfl|⟨V',T',hg,v,hv,hb⟩
 ·exact h.ge
 ·rw[h.obj] at hg;cases hg;obtain⟨i,hi,rfl⟩:=ZK hv;obtain⟨f,-,hf⟩:=h.has (Zc hi);exact(hf.lo hb).1
theorem StR.mhi (h:StR H B s T F V) (hw:H.wf) {n:Nat}(hn:Mut H s n):n < H.next:=by
 rcases hn with rfl|⟨V',T',hg,v,hv,hb⟩
 ·exact hw _ _ h.obj
 ·rw[h.obj] at hg;cases hg;obtain⟨i,hi,rfl⟩:=ZK hv;obtain⟨f,-,hf⟩:=h.has (Zc hi);exact(hf.lo hb).2
theorem StR.lt (h:StR H B s T F V) (hw:H.wf):s < H.next:=hw _ _ h.obj
theorem StR.hx (h:StR H B s T F V) {H0 H':Heap}(h0:HX H0 H) (hb:H0.next<=B) (hx:SX s H H'):HX H0 H':=h0.then hx.hk fun n hn q=>by have:=h.mlo q;omega
theorem StR.keep (h:StR H B s T F V) (hw:H.wf) {H':Heap}(hx:HX H H'):StR H' B s T F V :=
 ⟨hx.get hw h.obj,h.ge,h.len,fun i f v hf hv=>by
  have q:=h.fld i f v hf hv;exact q.heap (fun n hn=>hx.keep n (q.lo hn).2) hx.next,h.apart,h.off,h.ones⟩
theorem StR.put (h:StR H B s T F V) (hw:H.wf) {H2:Heap}(hw2:H2.wf) (hn:H.next<=H2.next) {i:Nat}{v v':Value}{f':Fld}(hV:V[i]?=some v) (hk:∀n,n < H.next->blkOf v≠some n->H2.get n=H.get n)
  (hf:FR H2 B f' v') (hb:∀n,blkOf v'=some n->blkOf v=some n\/H.next<=n) (ho:one v'=true) :
  StR (H2.put s (some (.row (V.set i v') T))) B s T (F.set i f') (V.set i v')/\SX s H (H2.put s (some (.row (V.set i v') T))):=by
 have hs:=h.lt hw;have hi:i < V.length:=(List.getElem?_eq_some_iff.1 hV).1;have hmem:v∈V:=Zr hV;obtain⟨f,hF,hfv⟩:=h.has hV;have hvs:=h.off i v hV;have hb's:blkOf v'≠some s:=fun q=>by
  rcases hb s q with q|q
  ·exact hvs q
  ·omega
 have hset:∀(j:Nat) u,(V.set i v')[j]?=some u->(j=i/\u=v')\/(j≠i/\V[j]?=some u):=fun j u q=>by
  rw[ZD] at q;by_cases hij:i=j
  ·rw[if_pos hij,if_pos hi] at q;cases q;exact .inl ⟨hij.symm,rfl⟩
  ·rw[if_neg hij] at q;exact .inr ⟨fun e=>hij e.symm,q⟩
 have hw':(H2.put s (some (.row (V.set i v') T))).wf:=by
  intro n D hD;rw[get_put] at hD;rw[z07];split at hD
  ·subst n;omega
  ·exact hw2 _ _ hD
 refine⟨⟨by rw[get_put,if_pos rfl],h.ge,by rw[List.length_set,List.length_set];exact h.len,fun j g u hg hu=>?_,fun j k u u' n h1 h2 h3 h4=>?_,fun j u hu=>?_,?_⟩,⟨⟨by rw[z07];exact hn,fun n hn' hm=>?_,hw'⟩,fun n hm=>?_⟩⟩
 ·rcases hset j u hu with ⟨rfl,rfl⟩|⟨hj,hu'⟩
  ·rw[ZD,if_pos rfl,if_pos (by rw[h.len];exact hi)] at hg;cases hg;refine hf.heap (fun n hn=>?_) (by rw[z07];exact Zf _);rw[get_put,if_neg (fun e:n=s=>hb's (e ▸ hn))]
  ·rw[ZD,if_neg (fun e=>hj e.symm)] at hg;have q:=h.fld j g u hg hu';refine q.heap (fun n hn=>?_) (by rw[z07];exact hn);rw[get_put,if_neg (fun e:n=s=>h.off j u hu' (e ▸ hn))];exact hk n (q.lo hn).2 fun e=>hj (h.apart j i u v n hu' hV hn e)
 ·rcases hset j u h1 with ⟨rfl,rfl⟩|⟨hj,hu⟩
  ·rcases hset k u' h2 with ⟨rfl,rfl⟩|⟨hk',hu'⟩
   ·rfl
   ·rcases hb n h3 with q|q
    ·exact h.apart _ _ _ _ n hV hu' q h4
    ·obtain⟨f2,-,q2⟩:=h.has hu';have:=(q2.lo h4).2;omega
  ·rcases hset k u' h2 with ⟨rfl,rfl⟩|⟨hk',hu'⟩
   ·rcases hb n h4 with q|q
    ·exact h.apart _ _ _ _ n hu hV h3 q
    ·obtain⟨f2,-,q2⟩:=h.has hu;have:=(q2.lo h3).2;omega
   ·exact h.apart _ _ _ _ n hu hu' h3 h4
 ·rcases hset j u hu with ⟨rfl,rfl⟩|⟨hj,hu'⟩
  ·exact hb's
  ·exact h.off j u hu'
 ·rw[List.all_eq_true];intro u hu;rcases List.mem_or_eq_of_mem_set hu with q|q
  ·exact List.all_eq_true.1 h.ones u q
  ·rw[q];exact ho
 ·rw[get_put,if_neg (fun e=>hm (.inl e))];exact hk n hn' fun e=>hm (.inr ⟨V,T,h.obj,v,hmem,e⟩)
 ·rcases hm with q|⟨V',T',hg,u,hu,hub⟩
  ·exact .inl (.inl q)
  ·rw[get_put,if_pos rfl] at hg;cases hg;rcases List.mem_or_eq_of_mem_set hu with q|q
   ·exact .inl (.inr ⟨V,T,h.obj,u,q,hub⟩)
   ·rw[q] at hub;rcases hb n hub with e|e
    ·exact .inl (.inr ⟨V,T,h.obj,v,hmem,e⟩)
    ·exact .inr e
theorem z31 {α:Type}{l:List α}{i:Nat}{v:α}(h:l[i]?=some v):l.set i v=l:=by
 apply ZN;intro j;rw[ZD];by_cases hj:i=j
 ·subst hj;rw[if_pos rfl,if_pos (List.getElem?_eq_some_iff.1 h).1,h]
 ·rw[if_neg hj]
theorem StR.alter (h:StR H B s T F V) (hw:H.wf) {H2:Heap}(hw2:H2.wf) (hn:H.next<=H2.next) {i:Nat}{v:Value}{f':Fld}(hV:V[i]?=some v) (hk:∀n,n < H.next->blkOf v≠some n->H2.get n=H.get n)
  (hf:FR H2 B f' v):StR H2 B s T (F.set i f') V/\SX s H H2:=by
 have hs:=h.lt hw;have hi:i < V.length:=(List.getElem?_eq_some_iff.1 hV).1;have hmem:v∈V:=Zr hV;have hvs:=h.off i v hV;have hobj:H2.get s=some (.row V T):=(hk s hs hvs).trans h.obj;refine⟨⟨hobj,h.ge,by rw[List.length_set];exact h.len,fun j g u hg hu=>?_,h.apart,h.off,h.ones⟩,⟨⟨hn,fun n hn' hm=>?_,hw2⟩,fun n hm=>?_⟩⟩
 ·by_cases hj:i=j
  ·subst hj;rw[ZD,if_pos rfl,if_pos (by rw[h.len];exact hi)] at hg;cases hg;rw[hV] at hu;cases hu;exact hf
  ·rw[ZD,if_neg hj] at hg;have q:=h.fld j g u hg hu;exact q.heap (fun n hn=>hk n (q.lo hn).2 fun e=>hj (h.apart j i u v n hu hV hn e).symm) hn
 ·exact hk n hn' fun e=>hm (.inr ⟨V,T,h.obj,v,hmem,e⟩)
 ·rcases hm with q|⟨V',T',hg,u,hu,hub⟩
  ·exact .inl (.inl q)
  ·rw[hobj] at hg;cases hg;exact .inl (.inr ⟨V,T,h.obj,u,hu,hub⟩)
theorem StR.setv (h:StR H B s T F V) (hw:H.wf) {i:Nat}{v v':Value}(hV:V[i]?=some v) (hb:blkOf v'=none) (ho:one v'=true) :
  StR (H.put s (some (.row (V.set i v') T))) B s T (F.set i (.vl v')) (V.set i v')/\SX s H (H.put s (some (.row (V.set i v') T))) :=
 h.put hw hw (Zf _) hV (fun _ _ _=>rfl) (f':=.vl v') ⟨rfl,hb⟩ (fun n hn=>by rw[hb] at hn;cases hn) ho
theorem StR.vl (h:StR H B s T F V) {i:Nat}{x:Value}(hF:F[i]?=some (.vl x)) {v:Value}(hV:V[i]?=some v):v=x:=(h.fld i _ _ hF hV).1
theorem StR.load (h:StR H B s T F V) {i:Nat}{v:Value}(hv:V[i]?=some v):H.load ⟨s,i,none⟩ 1=some [v]:=by
 unfold Heap.load Heap.cells;simp only[h.obj];have hi:=List.getElem?_eq_some_iff.1 hv;have e:(V.drop i).take 1=[v]:=by
  rw[ZI hi.1,List.take_succ_cons,List.take_zero,hi.2]
 rw[e];rfl
theorem StR.sl (h:StR H B s T F V) {i:Nat}{v:Value}{e:TypeId}{w:Nat}{L:List (List Value)}(hF:F[i]?=some (.sl e w L)) (hV:V[i]?=some v):∃a c,v=.slice a L.length c/\L.length<=c/\c<=maxLen :=
 RepO.slice (h.fld i _ _ hF hV)
theorem StR.el (h:StR H B s T F V) {i n c k:Nat}{a:Option Addr}{e:TypeId}{w:Nat}{L:List (List Value)}{x:List Value}(hF:F[i]?=some (.sl e w L)) (hV:V[i]?=some (.slice a n c)) (hx:L[k]?=some x) :
  ∃b,a=some ⟨b,0,none⟩/\OwnS H e w B L b c/\H.load ⟨b,k*w,none⟩ w=some x:=by
 rcases h.fld i _ _ hF hV with ⟨rfl,q⟩|⟨b,c',q,e⟩
 ·simp at hx
 ·cases e;exact⟨b,rfl,q,q.load hx⟩
theorem FR.push {P:Program}{t e:TypeId}{w:Nat}{L:List (List Value)}{v:Value}(h:FR H B (.sl e w L) v) (hw:H.wf) (hp:apOk P t e w) {y:List Value}{ad:Addr}{c1:Nat}(hl:H.load ad (1*w)=some y) (hy:y.length=w) (ha:y.all one=true) (hm:L.length+1<=most) (hB:B<=H.next) :
  ∃H2 c,dAp P #[t,t] v (.slice (some ad) 1 c1) H=some (.val (.slice (some ⟨H.next,0,none⟩) (L.length+1) c) H2)/\OwnS H2 e w B (L++[y]) H.next c/\H2.next=H.next+1/\H2.wf/\(∀n,n < H.next->blkOf v≠some n->H2.get n=H.get n)/\H2.get H.next=some (.row (L++[y]).flatten e):=by
 have hmax:L.length+1<=maxLen:=Zk hm (by simp [most,maxLen]);rcases h with ⟨rfl,rfl⟩|⟨b,c,h,rfl⟩
 ·refine⟨_,1,z47 hp (by omega) hm hl ha,OwnS.first hy ha hB,rfl,((HX.refl hw).new _).wf,fun n hn _=>z1d hn,by rw[z0i];simp⟩
 ·obtain⟨cs,hg,hle,ht⟩:=h.row;have hbn:b < H.next:=h.hi;have hone:(cs.take (L.length*w)).all one=true:=by
   rw[ht,List.all_eq_true];intro z hz;obtain⟨l,hl1,hl2⟩:=List.mem_flatten.1 hz;exact List.all_eq_true.1 (h.all l hl1) z hl2
  refine⟨_,_,z3a hp (by omega) hm hl ha hg hle hone,h.push hg hy ha hmax hB,rfl,(((HK.refl (S:=fun n=>n=b) hw).put (.inl rfl) hbn none).new _).wf,fun n hn hne=>?_,?_⟩
  ·rw[z1d (by rw[z07];exact hn),z2d (fun e=>hne (by rw[e];rfl))]
  ·show ((H.put b none).new _).get (H.put b none).next=_;rw[z0i,ht,List.flatten_append];simp
theorem StR.pushed {P:Program}{t e:TypeId}{w i c1:Nat}{L:List (List Value)}{v:Value}{y:List Value}{ad:Addr}(h:StR H B s T F V) (hw:H.wf) (hp:apOk P t e w) (hF:F[i]?=some (.sl e w L)) (hV:V[i]?=some v) (hl:H.load ad (1*w)=some y)
  (hy:y.length=w) (ha:y.all one=true) (hm:L.length+1<=most) :
  ∃H2 c,dAp P #[t,t] v (.slice (some ad) 1 c1) H=some (.val (.slice (some ⟨H.next,0,none⟩) (L.length+1) c) H2)/\H2.get s=some (.row V T)/\H2.wf/\(∀n,n < H.next->blkOf v≠some n->H2.get n=H.get n)/\∃H3,H2.put s (some (.row (V.set i (.slice (some ⟨H.next,0,none⟩) (L.length+1) c)) T))=H3 /\
   StR H3 B s T (F.set i (.sl e w (L++[y]))) (V.set i (.slice (some ⟨H.next,0,none⟩) (L.length+1) c))/\SX s H H3:=by
 have hB:B<=H.next:=Zk h.ge (Nat.le_of_lt (h.lt hw));obtain⟨H2,c,e2,o2,n2,w2,k2,-⟩:=(h.fld i _ _ hF hV).push (c1:=c1) hw hp hl hy ha hm hB;have p:=h.put hw w2 (by omega) hV k2 (f':=.sl e w (L++[y])) (v':=.slice (some ⟨H.next,0,none⟩) (L.length+1) c) (.inr ⟨_,c,o2,by simp⟩) (fun n hn=>.inr (by cases hn;exact Zf _)) rfl;exact⟨H2,c,e2,(k2 s (h.lt hw) (h.off i v hV)).trans h.obj,w2,k2,_,rfl,p.1,p.2⟩
end
end Go.Hb
end

section
namespace Go.Hb
open Go Go.RowKit
def dNilC (v:Value) (H:Heap):Option Dr:=match v with
 |.pointer (some a)=>some (.val (.pointer (some a)) H)
 |.func (.func f) a b=>some (.val (.func (.func f) a b) H)
 |_=>none
theorem z0c {P:Program}{H:Heap}{d:Option Tmp}{x:Operand}{ty:TypeId}{pos:String}{af:Array Edge}{g:Option (Nat × Bool)}{ρ:Operand->Value}:dop P ⟨d,.nilCheck x,ty,pos,af,g⟩ ρ H=dNilC (ρ x) H:=_root_.id rfl
theorem z0j {H:Heap}{a:Addr}:dNilC (.pointer (some a)) H=some (.val (.pointer (some a)) H):=_root_.id rfl
theorem z6r {H:Heap}{p:Nat}{T:TypeId}{x y:Value}(h:H.get p=some (.row [x,y] T)):H.load ⟨p,0,none⟩ 2=some [x,y]/\H.load ⟨p,0,none⟩ 1=some [x]/\H.load ⟨p,1,none⟩ 1=some [y]:=by
 simp only[Heap.load,Heap.cells,h];exact⟨rfl,rfl,rfl⟩
theorem zp5 {H:Heap}{p:Nat}{T:TypeId}{x y z:Value}(h:H.get p=some (.row [x,y,z] T)):H.load ⟨p,0,none⟩ 3=some [x,y,z]/\H.load ⟨p,0,none⟩ 1=some [x]/\H.load ⟨p,1,none⟩ 1=some [y]/\H.load ⟨p,2,none⟩ 1=some [z]:=by
 simp only[Heap.load,Heap.cells,h];exact⟨rfl,rfl,rfl,rfl⟩
theorem zn1 {H:Heap}{p:Nat}{T:TypeId}{x:Value}(h:H.get p=some (.row [x] T)):H.load ⟨p,0,none⟩ 1=some [x]:=by
 simp only[Heap.load,Heap.cells,h];rfl
theorem StR.row {H:Heap}{B s:Nat}{T:TypeId}{F:List Fld}{V:List Value}(h:StR H B s T F V) {i n c k:Nat}{a:Option Addr}{e:TypeId}{w:Nat}{L:List (List Value)}(hF:F[i]?=some (.sl e w L)) (hV:V[i]?=some (.slice a n c)) (hk:k < L.length) :
  ∃b cs,a=some ⟨b,0,none⟩/\OwnS H e w B L b c/\H.get b=some (.row cs e)/\L.length*w<=cs.length:=by
 obtain⟨b,rfl,o,ld⟩:=h.el hF hV (Zc hk);obtain⟨cs,h1,h2,h3⟩:=o.row;exact⟨b,cs,rfl,o,h1,h2⟩
theorem StR.write {H:Heap}{B s:Nat}{T:TypeId}{F:List Fld}{V:List Value}(h:StR H B s T F V) (hw:H.wf) {i n c k b:Nat}{e:TypeId}{w:Nat}{L:List (List Value)}{cs y:List Value}(hF:F[i]?=some (.sl e w L)) (hV:V[i]?=some (.slice (some ⟨b,0,none⟩) n c)) (hk:k < L.length)
  (hg:H.get b=some (.row cs e)) (hy:y.length=w) (ha:y.all one=true) :
  ∃H2,H.put b (some (.row (splice cs (k*w) y) e))=H2/\StR H2 B s T (F.set i (.sl e w (L.set k y))) V/\SX s H H2:=by
 obtain⟨b',e1,o,ld⟩:=h.el hF hV (Zc hk);cases e1;have hb:b < H.next:=hw _ _ hg;have hn:n=L.length:=by obtain⟨a',c',e2,-⟩:=h.sl hF hV;cases e2;rfl
 subst hn;have hk2:=(HK.refl (S:=fun n=>n=b) hw).put (.inl rfl) hb (some (.row (splice cs (k*w) y) e));have p:=h.alter hw (H2:=H.put b (some (.row (splice cs (k*w) y) e))) hk2.wf (Zf _) hV (fun n hn hne=>by rw[get_put,if_neg (fun e=>hne (by rw[e];rfl))]) (f':=.sl e w (L.set k y)) (.inr ⟨b,c,o.set hg hk hy ha,by rw[List.length_set]⟩);exact⟨_,rfl,p.1,p.2⟩
theorem StR.cut {H:Heap}{B s:Nat}{T:TypeId}{F:List Fld}{V:List Value}(h:StR H B s T F V) (hw:H.wf) {i n c m:Nat}{a:Option Addr}{e:TypeId}{w:Nat}{L:List (List Value)}(hF:F[i]?=some (.sl e w L)) (hV:V[i]?=some (.slice a n c)) (hm:m<=L.length) :
  ∃H2,H.put s (some (.row (V.set i (.slice a m c)) T))=H2/\StR H2 B s T (F.set i (.sl e w (L.take m))) (V.set i (.slice a m c))/\SX s H H2:=by
 have q:=h.fld i _ _ hF hV;have hb:∀n',blkOf (.slice a m c)=some n'->blkOf (.slice a n c)=some n'\/H.next<=n':=fun n' hn=>.inl (by cases a<;>exact hn)
 have p:=h.put hw (H2:=H) hw (Zf _) hV (fun _ _ _=>rfl) (f':=.sl e w (L.take m)) (v':=.slice a m c) (RepO.takeR q hm) hb rfl;exact⟨_,rfl,p.1,p.2⟩
theorem StR.beside {H:Heap}{B s:Nat}{T:TypeId}{F:List Fld}{V:List Value}(h:StR H B s T F V) {H':Heap}(hk:∀n,Mut H s n->H'.get n=H.get n) (hn:H.next<=H'.next):StR H' B s T F V :=
 ⟨(hk s (.inl rfl)).trans h.obj,h.ge,h.len,fun i f v hf hv=>(h.fld i f v hf hv).heap (fun n hb=>hk n (.inr ⟨V,T,h.obj,v,Zr hv,hb⟩)) hn,h.apart,h.off,h.ones⟩
theorem Mut.same {H H':Heap}{s:Nat}(hk:H'.get s=H.get s) (n:Nat):Mut H' s n↔Mut H s n:=by
 unfold Mut;rw[hk]
theorem StR.kind {H:Heap}{B s:Nat}{T:TypeId}{F:List Fld}{V:List Value}(h:StR H B s T F V) {n:Nat}(hm:Mut H s n):(∃cs,H.get n=some (.row cs T))\/(∃(i:Nat) (e:TypeId) (w:Nat) (L:List (List Value)) (cs:List Value),F[i]?=some (Fld.sl e w L)/\H.get n=some (.row cs e))\/∃(i:Nat) (M:List (Value × Value)) (es:List MapEntry) (c:Nat),F[i]?=some (Fld.mp M)/\H.get n=some (.map es c):=by
 rcases hm with rfl|⟨V',T',hg,v,hv,hb⟩
 ·exact .inl ⟨_,h.obj⟩
 rw[h.obj] at hg;cases hg;obtain⟨i,hi,rfl⟩:=ZK hv;obtain⟨f,hf,hr⟩:=h.has (Zc hi);cases f with
 |sl e w L =>
  rcases hr with ⟨-,q⟩|⟨b,c,o,q⟩
  ·rw[q] at hb;cases hb
  ·rw[q] at hb;cases hb;obtain⟨cs,g,-⟩:=o.row;exact .inr (.inl ⟨i,e,w,L,cs,hf,g⟩)
 |mp M =>
  obtain⟨r,es,c,q,-,-,g,-⟩:=hr;rw[q] at hb;cases hb;exact .inr (.inr ⟨i,M,es,c,hf,g⟩)
 |vl x=>rw[hr.2] at hb;cases hb
end Go.Hb
end

section
namespace Go.Proofs.hq
open Go Go.RowKit Go.Hb
variable {ok:Ok}
set_option maxRecDepth 10000
attribute [local irreducible] LX LG EL STG SOP SGO SGD SAL SRD SEF SEG SLK SCK ES
theorem z3j {P:Program}{α:Type}{a:α}:pureRun P (pure a)=some a:=rfl
theorem z9p {P:Program}:pureRun P program=some P:=rfl
theorem zus:Tryd.prog.stoodInHeld 47=false:=by kernel_rfl
theorem un49:pureRun Tryd.prog (underlying 47)=some (.struct #[{ name := "Name", type:=9,offset:=0,embedded:=false,tag := "", pkgPath := "", byteOffset:=0 },{ name := "Arity", type:=3,offset:=1,embedded:=false,tag := "", pkgPath := "", byteOffset:=16 }]):=by kernel_rfl
theorem zi5 {n:Nat}{cs:Array Value}{v:Value}(h:cs[n]?=some v):pureRun Tryd.prog (part 3 cs n)=some v:=by
 have h1:pureRun Tryd.prog (isAgg 3)=some false:=by kernel_rfl
 unfold part;rw[z08,h1,Zw,h];rfl
theorem zek {n:Nat}{cs:Array Value}{v:Value}(h:cs[n]?=some v):pureRun Tryd.prog (part 9 cs n)=some v:=by
 have h1:pureRun Tryd.prog (isAgg 9)=some false:=by kernel_rfl
 unfold part;rw[z08,h1,Zw,h];rfl
theorem zn2 {d:Nat}{a b:Int}:pureRun Tryd.prog (Op.equalIn (d+1) 3 (.int .i64 a) (.int .i64 b))=some (a == b):=by
 have hu:pureRun Tryd.prog (underlying 3)=some (.int .i64):=by kernel_rfl
 unfold Op.equalIn;rw[z08,hu,Zw];rfl
theorem zfr {d:Nat}{a b:ByteArray}:pureRun Tryd.prog (Op.equalIn (d+1) 9 (.string a) (.string b))=some (a == b):=by
 have hu:pureRun Tryd.prog (underlying 9)=some .string:=by kernel_rfl
 unfold Op.equalIn;rw[z08,hu,Zw];rfl
theorem zut {a b:ByteArray}{n m:Int}:pureRun Tryd.prog (Op.equal 47 (.agg #[.string a,.int .i64 n]) (.agg #[.string b,.int .i64 m]))=some (a == b && n == m):=by
 show pureRun Tryd.prog (Op.equalIn (9999+1) _ _ _)=_;unfold Op.equalIn;rw[z08,un49,Zw];simp only[];rw[z08,z9p,Zw,zus];simp only[Ze,if_false];have p1:pureRun Tryd.prog (part 9 #[Value.string a,Value.int IntKind.i64 n] 0)=some (.string a):=zek rfl;have p2:pureRun Tryd.prog (part 9 #[Value.string b,Value.int IntKind.i64 m] 0)=some (.string b):=zek rfl;have p3:pureRun Tryd.prog (part 3 #[Value.string a,Value.int IntKind.i64 n] 1)=some (.int .i64 n):=zi5 rfl;have p4:pureRun Tryd.prog (part 3 #[Value.string b,Value.int IntKind.i64 m] 1)=some (.int .i64 m):=zi5 rfl;have e1:pureRun Tryd.prog (Op.equalIn 9999 9 (.string a) (.string b))=some (a == b):=zfr;have e2:pureRun Tryd.prog (Op.equalIn 9999 3 (.int .i64 n) (.int .i64 m))=some (n == m):=zn2;have nn:(("Name" : String) ≠ "_")=True:=by simp
 have na:(("Arity" : String) ≠ "_")=True:=by simp
 simp only[<-Array.forIn_toList,List.forIn_cons,List.forIn_nil,z08,nn,na,if_true,p1,p2,e1,Zw];cases hab:a == b with
 |false=>simp [z08,z3j]
 |true =>
  simp only[Zq,Ze,if_false,z08,z3j,Zw,p3,p4,e2];cases hnm:n == m<;>simp [z08,z3j]
abbrev sUser:ByteArray:=⟨#[117,115,101,114]⟩
abbrev PK:=ByteArray × Int
abbrev pkv (k:PK):Value:=.agg ⟨[.string sUser,.string k.1,.int .i64 k.2]⟩
abbrev kkv (k:PK):Value:=.agg ⟨[.string k.1,.int .i64 k.2]⟩
structure Ln where
 key:PK
 c:Cls
 there:Bool
structure Prc where
 key:PK
 blk:Nat
 ids:List Nat
structure Db where
 lines:List Ln
 procs:List Prc
 n:Int
def fixK:List PK:=[(⟨#[44]⟩,2),(⟨#[59]⟩,2),(⟨#[45,62]⟩,2),(⟨#[58]⟩,2),(⟨#[33]⟩,0),(⟨#[116,114,117,101]⟩,0)]
def fixM (l:List PK):List (Value × Value):=l.map fun k=>(kkv k,.int .i64 1)
abbrev ptr (b:Nat):Value:=.pointer (some ⟨b,0,none⟩)
def procM (l:List Prc):List (Value × Value):=l.map fun p=>(pkv p.key,ptr p.blk)
def exM:List (Value × Value):=[(.string sUser,.slice none 0 0)]
def lnC (l:Ln) (cs:List Value):List Value:=.string sUser :: .string l.key.1 :: .int .i64 l.key.2 :: (cs++[.bool l.there])
def idC (l:List Nat):List (List Value):=l.map fun i=>[.int .i64 (i:Nat)]
def dFlds (D:Db) (cells:List (List Value)):List Fld:=[.mp (fixM fixK),.sl 121 19 cells,.vl (.int .i64 D.n),.mp (procM D.procs),.mp exM,.mp [],.mp []]
def pFlds (p:Prc):List Fld:=[.vl (.int .i64 2),.sl 3 1 (idC p.ids)]
def MutA (H:Heap) (d:Nat) (D:Db) (n:Nat):Prop:=Mut H d n\/∃p∈D.procs,Mut H p.blk n
def Off (H:Heap) (d:Nat) (D:Db) (n:Nat):Prop:=n < H.next/\¬MutA H d D n
def LnsR (H:Heap) (S:Nat->Prop) (l:List Ln) (cells:List (List Value)):Prop:=cells.length=l.length/\∀(i:Nat) (x:Ln),l[i]?=some x->∃cs:List Value,cells[i]?=some (lnC x cs)/\RepD H S x.c cs
structure DbB (H:Heap) (B d:Nat) (D:Db):Prop where
 obj:∃V cells,StR H B d 110 (dFlds D cells) V/\LnsR H (Off H d D) D.lines cells
 prc:∀p∈D.procs,∃v,StR H B p.blk 118 (pFlds p) [.int .i64 2,v]
 dis:∀p∈D.procs,∀q∈D.procs,p≠q->∀n,Mut H p.blk n->¬Mut H q.blk n
structure DX (H H':Heap) (d:Nat) (D D':Db):Prop where
 hk:HK (MutA H d D) H H'
 mt:∀n,MutA H' d D' n->MutA H d D n\/H.next<=n
theorem DX.trans {A B C:Heap}{d:Nat}{D D1 D2:Db}(h:DX A B d D D1) (k:DX B C d D1 D2):DX A C d D D2 :=
 ⟨h.hk.step k.hk fun n hn q=>by rcases h.mt n q with q|q;exact q;omega,fun n q=>by
  rcases k.mt n q with q|q
  ·exact h.mt n q
  ·exact .inr (Zk h.hk.next q)⟩
theorem DX.off {H H':Heap}{d:Nat}{D D':Db}(h:DX H H' d D D') {n:Nat}(ho:Off H d D n):H'.get n=H.get n/\Off H' d D' n/\n < H'.next :=
 ⟨h.hk.keep n ho.1 ho.2,⟨Zh ho.1 h.hk.next,fun q=>by
  rcases h.mt n q with q|q
  ·exact ho.2 q
  ·have:=ho.1;omega⟩,Zh ho.1 h.hk.next⟩
section
variable {H H':Heap}{B d:Nat}{D D':Db}
theorem DbB.lo (h:DbB H B d D) {n:Nat}(hm:MutA H d D n):B<=n:=by
 rcases hm with hm|⟨p,hp,hm⟩
 ·obtain⟨V,cells,hs,-⟩:=h.obj;exact hs.mlo hm
 ·obtain⟨v,hs⟩:=h.prc p hp;exact hs.mlo hm
theorem DbB.hi (h:DbB H B d D) (hw:H.wf) {n:Nat}(hm:MutA H d D n):n < H.next:=by
 rcases hm with hm|⟨p,hp,hm⟩
 ·obtain⟨V,cells,hs,-⟩:=h.obj;exact hs.mhi hw hm
 ·obtain⟨v,hs⟩:=h.prc p hp;exact hs.mhi hw hm
theorem DbB.lt (h:DbB H B d D) (hw:H.wf):d < H.next:=h.hi hw (.inl (.inl rfl))
theorem DbB.off (h:DbB H B d D) (hw:H.wf) {n:Nat}(hn:n < B):Off H d D n:=⟨by have:=h.lt hw;have:=h.lo (.inl (.inl rfl));omega,fun q=>by have:=h.lo q;omega⟩
theorem DbB.apart (h:DbB H B d D) {p:Prc}(hp:p∈D.procs) {n:Nat}(h1:Mut H d n) (h2:Mut H p.blk n):False:=by
 obtain⟨V,cells,hs,-⟩:=h.obj;obtain⟨v,ht⟩:=h.prc p hp;have k1:=hs.kind h1;have k2:=ht.kind h2;have e1:∀(i:Nat) (e:TypeId) (w:Nat) (L:List (List Value)),(dFlds D cells)[i]?=some (Fld.sl e w L)->e=121:=fun i e w L q=>by
  have:=Zr q;simp [dFlds] at this;exact this.1
 have e2:∀(i:Nat) (e:TypeId) (w:Nat) (L:List (List Value)),(pFlds p)[i]?=some (Fld.sl e w L)->e=3:=fun i e w L q=>by
  have:=Zr q;simp [pFlds] at this;exact this.1
 have e3:∀(i:Nat) (M:List (Value × Value)),(pFlds p)[i]?=some (Fld.mp M)->False:=fun i M q=>by
  have:=Zr q;simp [pFlds] at this
 rcases k1 with ⟨cs,g⟩|⟨i,e,w,L,cs,q,g⟩|⟨im,M,es,c,qm,g⟩
 ·rcases k2 with ⟨cs',g'⟩|⟨i',e',w',L',cs',q',g'⟩|⟨im',M',es',c',qm',g'⟩
  ·rw[g] at g';cases g'
  ·rw[e2 _ _ _ _ q',g] at g';cases g'
  ·rw[g] at g';cases g'
 ·rw[e1 _ _ _ _ q] at g;rcases k2 with ⟨cs',g'⟩|⟨i',e',w',L',cs',q',g'⟩|⟨im',M',es',c',qm',g'⟩
  ·rw[g] at g';cases g'
  ·rw[e2 _ _ _ _ q',g] at g';cases g'
  ·rw[g] at g';cases g'
 ·rcases k2 with ⟨cs',g'⟩|⟨i',e',w',L',cs',q',g'⟩|⟨im',M',es',c',qm',g'⟩
  ·rw[g] at g';cases g'
  ·rw[g] at g';cases g'
  ·exact e3 _ _ qm'
theorem LnsR.to {S S':Nat->Prop}{l:List Ln}{cells:List (List Value)}(h:LnsR H S l cells) (hk:∀n,S n->n < H.next->H'.get n=H.get n/\S' n/\n < H'.next):LnsR H' S' l cells :=
 ⟨h.1,fun i x hx=>by obtain⟨cs,h1,h2⟩:=h.2 i x hx;exact⟨cs,h1,h2.to hk⟩⟩
theorem DbB.turn (h:DbB H B d D) (hw:H.wf) {V':List Value}{cells':List (List Value)}(hs:StR H' B d 110 (dFlds D' cells') V') (sx:SX d H H') (hp:∀p∈D'.procs,p∈D.procs)
  (hl:∀S:Nat->Prop,(∀n,Off H d D n->S n)->(∀n,H.next<=n->n < H'.next->¬Mut H' d n->S n)->LnsR H' S D'.lines cells'):DbB H' B d D'/\DX H H' d D D':=by
 have hk:HK (MutA H d D) H H':=sx.hk.sub fun n _ q=>.inl q
 have hpk:∀p∈D.procs,∀n,Mut H p.blk n->H'.get n=H.get n:=fun p hp n hm=>sx.hk.keep n (h.hi hw (.inr ⟨p,hp,hm⟩)) fun q=>h.apart hp q hm
 have hpm:∀p∈D.procs,∀n,Mut H' p.blk n↔Mut H p.blk n:=fun p hp n=>Mut.same (hpk p hp _ (.inl rfl)) n
 have mt:∀n,MutA H' d D' n->MutA H d D n\/H.next<=n:=fun n q=>by
  rcases q with q|⟨p,hq,q⟩
  ·exact(sx.mt n q).imp .inl id
  ·have hq:=hp p hq;exact .inl (.inr ⟨p,hq,(hpm p hq n).1 q⟩)
 have dx:DX H H' d D D':=⟨hk,mt⟩
 refine⟨⟨⟨V',cells',hs,hl _ (fun n hn=>(dx.off hn).2.1) fun n h1 h2 h3=>⟨h2,fun q=>?_⟩⟩,fun p hq=>?_,fun p hq q hq' hne n h1 h2=>?_⟩,dx⟩
 ·rcases q with q|⟨p,hq,q⟩
  ·exact h3 q
  ·have hq:=hp p hq;have:=h.hi hw (.inr ⟨p,hq,(hpm p hq n).1 q⟩);omega
 ·have hq:=hp p hq;obtain⟨v,ht⟩:=h.prc p hq;exact⟨v,ht.beside (hpk p hq) sx.next⟩
 ·have hq:=hp p hq;have hq':=hp q hq';exact h.dis p hq q hq' hne n ((hpm p hq n).1 h1) ((hpm q hq' n).1 h2)
theorem DbB.keep (h:DbB H B d D) (hw:H.wf) (hx:HX H H'):DbB H' B d D/\DX H H' d D D:=by
 obtain⟨V,cells,hs,hl⟩:=h.obj;refine h.turn hw (hs.keep hw hx) (hx.sx (h.lt hw)) (fun _ h=>h) fun S h1 h2=>hl.to fun n hn hl=>⟨hx.keep n hl,h1 n hn,Zh hl hx.next⟩
theorem DbB.turnP (h:DbB H B d D) (hw:H.wf) {i:Nat}{p p':Prc}{v':Value}(hi:D.procs[i]?=some p) (hu:∀j q,D.procs[j]?=some q->q=p->j=i) (hs:StR H' B p.blk 118 (pFlds p') [.int .i64 2,v']) (sx:SX p.blk H H') (hb:p'.blk=p.blk) (hkey:p'.key=p.key) :
  DbB H' B d { D with procs:=D.procs.set i p' }/\DX H H' d D { D with procs:=D.procs.set i p' }:=by
 have hp:p∈D.procs:=Zr hi;have hil:=(List.getElem?_eq_some_iff.1 hi).1;have hdk:∀n,Mut H d n->H'.get n=H.get n:=fun n hm=>sx.hk.keep n (h.hi hw (.inl hm)) fun q=>h.apart hp hm q
 have hdm:∀n,Mut H' d n↔Mut H d n:=fun n=>Mut.same (hdk _ (.inl rfl)) n
 have hqk:∀q∈D.procs,q≠p->∀n,Mut H q.blk n->H'.get n=H.get n:=fun q hq hne n hm=>sx.hk.keep n (h.hi hw (.inr ⟨q,hq,hm⟩)) fun e=>h.dis q hq p hp hne n hm e
 have hqm:∀q∈D.procs,q≠p->∀n,Mut H' q.blk n↔Mut H q.blk n:=fun q hq hne n=>Mut.same (hqk q hq hne _ (.inl rfl)) n
 have hset:∀q∈D.procs.set i p',q=p'\/(q∈D.procs/\q≠p):=fun q hq=>by
  obtain⟨j,hj,rfl⟩:=ZK hq;rw[List.length_set] at hj;rw[List.getElem_set];split
  ·exact .inl rfl
  ·rename_i hne;exact .inr ⟨Zz hj,fun e=>hne (hu j _ (Zc hj) e).symm⟩
 have hk:HK (MutA H d D) H H':=sx.hk.sub fun n _ q=>.inr ⟨p,hp,q⟩
 have mt:∀n,MutA H' d { D with procs:=D.procs.set i p' } n->MutA H d D n\/H.next<=n:=fun n q=>by
  rcases q with q|⟨q,hq,hm⟩
  ·exact .inl (.inl ((hdm n).1 q))
  ·rcases hset q hq with rfl|⟨hq2,hne⟩
   ·rw[hb] at hm;exact(sx.mt n hm).imp (fun e=>.inr ⟨p,hp,e⟩) id
   ·exact .inl (.inr ⟨q,hq2,(hqm q hq2 hne n).1 hm⟩)
 have dx:DX H H' d D { D with procs:=D.procs.set i p' }:=⟨hk,mt⟩
 obtain⟨V,cells,ho,hl⟩:=h.obj;have hpm:procM (D.procs.set i p')=procM D.procs:=by
  unfold procM;rw[List.map_set,hb,hkey];refine z31 ?_;rw[Zv,hi];rfl
 refine⟨⟨⟨V,cells,?_,hl.to fun n hn _=>?_⟩,fun q hq=>?_,fun q hq r hr hne n h1 h2=>?_⟩,dx⟩
 ·have:=ho.beside hdk sx.next;unfold dFlds at this ⊢;simp only[hpm];exact this
 ·have:=dx.off hn;exact⟨this.1,this.2.1,this.2.2⟩
 ·rcases hset q hq with rfl|⟨hq2,hne⟩
  ·rw[hb];exact⟨v',hs⟩
  ·obtain⟨v,ht⟩:=h.prc q hq2;exact⟨v,ht.beside (hqk q hq2 hne) sx.next⟩
 ·have key:∀q∈D.procs,q≠p->Mut H' q.blk n->¬Mut H' p.blk n:=fun q hq hne m1 m2=>by
   have m1:=(hqm q hq hne n).1 m1;have:=h.hi hw (.inr ⟨q,hq,m1⟩);rcases sx.mt n m2 with e|e
   ·exact h.dis q hq p hp hne n m1 e
   ·omega
  rcases hset q hq with rfl|⟨hq2,hne1⟩
  ·rcases hset r hr with rfl|⟨hr2,hne2⟩
   ·exact hne rfl
   ·rw[hb] at h1;exact key r hr2 hne2 h2 h1
  ·rcases hset r hr with rfl|⟨hr2,hne2⟩
   ·rw[hb] at h2;exact key q hq2 hne1 h1 h2
   ·exact h.dis q hq2 r hr2 hne n ((hqm q hq2 hne1 n).1 h1) ((hqm r hr2 hne2 n).1 h2)
end
theorem isPd:isPtr Tryd.prog 48=true:=by kernel_rfl
theorem bEqP {H:Heap}{x y:Operand}{a:Addr}:dBin Tryd.prog .eql 48 x y (.pointer (some a)) (.pointer none) H=some (.val (.bool false) H):=by
 simp only[dBin,dnil,isPd,nilEq,if_true]
theorem isPp:isPtr Tryd.prog 116=true:=by kernel_rfl
theorem prE {H:Heap}{x y:Operand}{a:Addr}:dBin Tryd.prog .eql 116 x y (.pointer (some a)) (.pointer none) H=some (.val (.bool false) H):=by
 simp only[dBin,dnil,isPp,nilEq,if_true]
theorem prE0 {n:Nat}{H:Heap}:dBin Tryd.prog .eql 116 (.tmp n) (.const (.pointer none)) (.pointer none) (.pointer none) H=some (.val (.bool true) H):=by kernel_rfl
theorem prN {H:Heap}{x y:Operand}{a:Addr}:dBin Tryd.prog .neq 116 x y (.pointer (some a)) (.pointer none) H=some (.val (.bool true) H):=by
 simp only[dBin,dnil,isPp,nilEq,if_true]
theorem prN0 {n:Nat}{H:Heap}:dBin Tryd.prog .neq 116 (.tmp n) (.const (.pointer none)) (.pointer none) (.pointer none) H=some (.val (.bool false) H):=by kernel_rfl
theorem zsv {d:Nat}{a b:ByteArray}{n m:Int}:pureRun Tryd.prog (Op.equalIn (d+2) 47 (.agg #[.string a,.int .i64 n]) (.agg #[.string b,.int .i64 m]))=some (a == b && n == m):=by
 unfold Op.equalIn;rw[z08,un49,Zw];simp only[];rw[z08,z9p,Zw,zus];simp only[Ze,if_false];have p1:pureRun Tryd.prog (part 9 #[Value.string a,Value.int IntKind.i64 n] 0)=some (.string a):=zek rfl;have p2:pureRun Tryd.prog (part 9 #[Value.string b,Value.int IntKind.i64 m] 0)=some (.string b):=zek rfl;have p3:pureRun Tryd.prog (part 3 #[Value.string a,Value.int IntKind.i64 n] 1)=some (.int .i64 n):=zi5 rfl;have p4:pureRun Tryd.prog (part 3 #[Value.string b,Value.int IntKind.i64 m] 1)=some (.int .i64 m):=zi5 rfl;have e1:pureRun Tryd.prog (Op.equalIn (d+1) 9 (.string a) (.string b))=some (a == b):=zfr;have e2:pureRun Tryd.prog (Op.equalIn (d+1) 3 (.int .i64 n) (.int .i64 m))=some (n == m):=zn2;have nn:(("Name" : String) ≠ "_")=True:=by simp
 have na:(("Arity" : String) ≠ "_")=True:=by simp
 simp only[<-Array.forIn_toList,List.forIn_cons,List.forIn_nil,z08,nn,na,if_true,p1,p2,e1,Zw];cases hab:a == b with
 |false=>simp [z08,z3j]
 |true =>
  simp only[Zq,Ze,if_false,z08,z3j,Zw,p3,p4,e2];cases hnm:n == m<;>simp [z08,z3j]
theorem zw4:Tryd.prog.stoodInHeld 115=false:=by kernel_rfl
theorem unPl:pureRun Tryd.prog (underlying 115)=some (.struct #[{ name := "module", type:=9,offset:=0,embedded:=false,tag := "", pkgPath := "hornbeam/database", byteOffset:=0 },{ name := "key", type:=47,offset:=1,embedded:=false,tag := "", pkgPath := "hornbeam/database", byteOffset:=16 }]):=by kernel_rfl
def eqK (x a:PK):Bool:=x.1 == a.1 && x.2 == a.2
theorem zuu {a b:ByteArray}:(a == b)=true↔a=b:=by
 constructor
 ·intro h;cases a with
  |mk x=>cases b with
   |mk y =>
    have:(x == y)=true:=h;rw[eq_of_beq this]
 ·rintro rfl;cases a with
  |mk x=>exact(beq_self_eq_true x:(x == x)=true)
theorem zfs {x a:PK}:eqK x a=true↔x=a:=by
 obtain⟨a1,a2⟩:=a;obtain⟨x1,x2⟩:=x;simp only[eqK,Zj,zuu,beq_iff_eq,Prod.mk.injEq]
theorem zp6 (x a:PK):pureRun Tryd.prog (Op.equal 115 (pkv x) (pkv a))=some (eqK x a):=by
 show pureRun Tryd.prog (Op.equalIn (9999+1) _ _ _)=_;unfold Op.equalIn;rw[z08,unPl,Zw];simp only[];rw[z08,z9p,Zw,zw4];simp only[Ze,if_false];have p1:∀k:PK,pureRun Tryd.prog (part 9 ⟨[Value.string sUser,.string k.1,.int .i64 k.2]⟩ 0)=some (.string sUser):=fun k=>zek rfl
 have p2:∀k:PK,pureRun Tryd.prog (part 47 ⟨[Value.string sUser,.string k.1,.int .i64 k.2]⟩ 1)=some (.agg #[.string k.1,.int .i64 k.2]):=fun k=>by
  have h1:pureRun Tryd.prog (isAgg 47)=some true:=by kernel_rfl
  have h2:pureRun Tryd.prog (sizeOf 47)=some 2:=by kernel_rfl
  unfold part;rw[z08,h1,Zw];simp only[if_true];rw[z08,h2,Zw];rfl
 have e1:pureRun Tryd.prog (Op.equalIn 9999 9 (.string sUser) (.string sUser))=some true:=by rw[zfr];rfl
 have e2:pureRun Tryd.prog (Op.equalIn 9999 47 (.agg #[.string x.1,.int .i64 x.2]) (.agg #[.string a.1,.int .i64 a.2]))=some (eqK x a):=zsv (d:=9997);have nn:(("module" : String) ≠ "_")=True:=by simp
 have na:(("key" : String) ≠ "_")=True:=by simp
 simp only[<-Array.forIn_toList,List.forIn_cons,List.forIn_nil,z08,nn,na,if_true,p1,p2,e1,e2,Zw,Zq,Ze,if_false,z3j];cases h:eqK x a<;>simp [z08,z3j]
theorem keyP:KeyOf Tryd.prog 115 pkv eqK:=⟨⟨_,Tryd.underlying115⟩,zp6,fun emp x=>by kernel_rfl,fun x=>rfl⟩
theorem zsw:KeyOf Tryd.prog 47 kkv eqK:=⟨⟨_,Tryd.underlying47⟩,fun _ _=>zut,fun emp x=>by kernel_rfl,fun x=>rfl⟩
def Db.idx (D:Db) (k:PK):Option Nat:=(D.procs.map (·.key)).findIdx? (eqK k)
theorem Db.idx_none {D:Db}{k:PK}(h:D.idx k=none):∀p∈D.procs,p.key≠k:=fun p hp e=>by
 have:=List.findIdx?_eq_none_iff.1 h p.key (List.mem_map.2 ⟨p,hp,rfl⟩);rw[e,zfs.2 rfl] at this;cases this
theorem Db.idx_some {D:Db}{k:PK}{i:Nat}(h:D.idx k=some i):∃p,D.procs[i]?=some p/\p.key=k:=by
 obtain⟨hi,he,-⟩:=List.findIdx?_eq_some_iff_getElem.1 h;rw[Zt] at hi;rw[List.getElem_map] at he;exact⟨D.procs[i],Zc hi,(zfs.1 he).symm⟩
def procK (D:Db):List (PK × Value):=D.procs.map fun p=>(p.key,ptr p.blk)
theorem z4w {D:Db}{k:PK}:kIdx eqK (procK D) k=D.idx k:=by
 unfold kIdx procK Db.idx;rw[List.map_map];rfl
theorem zp7 {D:Db}{i:Nat}{p:Prc}(h:D.procs[i]?=some p):(procK D)[i]?=some (p.key,ptr p.blk):=by
 unfold procK;rw[Zv,h];rfl
def fixP:List (PK × Value):=fixK.map fun k=>(k,.int .i64 1)
section
variable {H:Heap}{B d:Nat}{D:Db}
theorem DbB.open (h:DbB H B d D):∃r0 a1 c1 r3 r4 r5 r6 cells,StR H B d 110 (dFlds D cells) [.map (some r0),.slice a1 D.lines.length c1,.int .i64 D.n,.map (some r3),.map (some r4),.map (some r5),.map (some r6)]/\LnsR H (Off H d D) D.lines cells /\
  H.load ⟨d,0,none⟩ 1=some [.map (some r0)]/\H.load ⟨d,1,none⟩ 1=some [.slice a1 D.lines.length c1]/\H.load ⟨d,2,none⟩ 1=some [.int .i64 D.n]/\H.load ⟨d,3,none⟩ 1=some [.map (some r3)] /\
  D.lines.length<=c1/\c1<=maxLen/\MapK kkv H r0 fixP/\MapK pkv H r3 (procK D):=by
 obtain⟨V,cells,hs,hl⟩:=h.obj;have hv:=hs.len
 match V,hs,hv with
 |[v0,v1,v2,v3,v4,v5,v6],hs,_ =>
  obtain⟨r0,es0,k0,rfl,-,-,g0,m0⟩:=hs.fld 0 _ _ rfl rfl;obtain⟨a1,c1,rfl,q1⟩:=hs.sl (i:=1) rfl rfl;have e2:=hs.vl (i:=2) rfl rfl;subst e2;obtain⟨r3,es3,k3,rfl,-,-,g3,m3⟩:=hs.fld 3 _ _ rfl rfl;obtain⟨r4,-,-,rfl,-⟩:=hs.fld 4 _ _ rfl rfl;obtain⟨r5,-,-,rfl,-⟩:=hs.fld 5 _ _ rfl rfl;obtain⟨r6,-,-,rfl,-⟩:=hs.fld 6 _ _ rfl rfl;rw[hl.1] at hs q1;refine⟨r0,a1,c1,r3,r4,r5,r6,cells,hs,hl,hs.load rfl,hs.load rfl,hs.load rfl,hs.load rfl,q1.1,q1.2,⟨es0,k0,g0,?_⟩,⟨es3,k3,g3,?_⟩⟩
  ·rw[m0];unfold fixM fixP;rw[List.map_map];rfl
  ·rw[m3];unfold procM procK;rw[List.map_map];rfl
theorem zp8 {r:Nat}{k:PK}(hm:MapK pkv H r (procK D)) {i:Nat}{p:Prc}(hi:D.idx k=some i) (hp:D.procs[i]?=some p) (n:Nat):dLk Tryd.prog 104 (.map (some r)) (pkv k) false ⟨n,H.t⟩=some (.val (ptr p.blk) ⟨n,H.t⟩):=by
 have e:=zei (ok:=false) keyP Tryd.underlying104 (hm.heap (H':=⟨n,H.t⟩) rfl) (z4w.trans hi) (zp7 hp);simp only[Ze,if_false] at e;exact e
theorem zn3 {r:Nat}{k:PK}(hm:MapK pkv H r (procK D)) (hi:D.idx k=none) (n:Nat):dLk Tryd.prog 104 (.map (some r)) (pkv k) false ⟨n,H.t⟩=some (.val (.pointer none) ⟨n,H.t⟩):=by
 have hz:pureRun Tryd.prog (zeroValue 116)=some (.pointer none):=by kernel_rfl
 have e:=zej (ok:=false) keyP Tryd.underlying104 hz rfl (hm.heap (H':=⟨n,H.t⟩) rfl) (z4w.trans hi);simp only[Ze,if_false] at e;exact e
theorem DbB.pr (h:DbB H B d D) {i:Nat}{p:Prc}(hp:D.procs[i]?=some p):∃a c,StR H B p.blk 118 (pFlds p) [.int .i64 2,.slice a p.ids.length c]/\H.load ⟨p.blk,0,none⟩ 1=some [.int .i64 2]/\H.load ⟨p.blk,1,none⟩ 1=some [.slice a p.ids.length c]/\p.ids.length<=c/\c<=maxLen:=by
 obtain⟨v,hs⟩:=h.prc p (Zr hp);obtain⟨a,c,rfl,q1,q2⟩:=hs.sl (i:=1) rfl rfl;simp only[idC,Zt] at hs q1;exact⟨a,c,hs,hs.load rfl,hs.load rfl,by simpa [idC] using q1,q2⟩
set_option maxHeartbeats 4000000 in
theorem zsx (h:DbB H B d D) (hw:H.wf) {k:PK}:EvF Tryd.prog okT 70 [ptr d,.string sUser,kkv k] H fun v H'=>v=.int .i64 (if (D.idx k).isSome then 2 else 0)/\HX H H':=by
 obtain⟨r0,a1,c1,r3,r4,r5,r6,cells,hs,hl,l0,l1,l2,l3,q1,q2,m0,m3⟩:=h.open;refine EvF.enter rfl Tryd.func70 (by decide) rfl ?_;(repeat refine qZa ?_);refine qZb ?_;simp (config:=qZc) (disch:=first|omega|rfl) only[sB,initTm,dBox,Za,Zb,Value.cells,one,reduceCtorEq];obtain⟨H1,e1,hx1,g1,n1,w1⟩:=new1 hw (.row [.string k.1,.int .i64 k.2] 47);simp only[e1];clear e1;have qk:=z6r g1;have l3':=hx1.load hw l3;have m3':MapK pkv H1 r3 (procK D):=m3.heap (hx1.keep _ (by obtain⟨es,c,g,-⟩:=m3;exact hw _ _ g));cases hi:D.idx k with
 |none =>
  have el:=zn3 m3' hi
  repeat' (first|refine qZa ?_|(refine qZf ?_;try simp only[z06,z01])|(refine qZb ?_;simp (config:=qZc) (disch:=first|omega|rfl) only[sA])|(refine qZj (id:=1) [([(0,0),(1,0),(2,0),(3,0),(4,0),(5,0),(6,0),(7,0),(8,0),(9,0),(10,0),(11,0),(12,0)],none)] ?_ ?_;kernel_rfl;simp (config:=qZc) (disch:=first|omega|rfl) only[sD,sB,Za,Zb,Value.cells,one,reduceCtorEq,Zn,layC,z3d,z8t,ld47,zbl,z0c,z0j,bEqP,qk,l3',z0m,el,prE0,isAlloc,isRead])|(refine qZd ?_ ?_;simp (config:=qZc) (disch:=first|omega|rfl) only[sB,Za,reduceCtorEq];refine z05 ?_))
  exact z04 rfl (by simp only[sB,Za,reduceCtorEq];rfl) ⟨rfl,hx1.bump 13⟩
 |some i =>
  obtain⟨p,hp,hk⟩:=Db.idx_some hi;have el:=zp8 m3' hi hp;obtain⟨a,c,hps,lp0,lp1,-⟩:=h.pr hp;have lp0':=hx1.load hw lp0
  repeat' (first|refine qZa ?_|(refine qZe ?_;try simp only[z00])|(refine qZf ?_)|(refine qZj (id:=1) [([(0,0),(1,0),(2,0),(3,0),(4,0),(5,0),(6,0),(7,0),(8,0),(9,0),(10,0),(11,0),(12,0)],none)] ?_ ?_;kernel_rfl;simp (config:=qZc) (disch:=first|omega|rfl) only[sD,sB,Za,Zb,Value.cells,one,reduceCtorEq,Zn,layC,z3d,z8t,ld47,zbl,z0c,z0j,bEqP,qk,l3',z0m,el,prE,Ze,isAlloc,isRead])|(refine qZj (id:=3) [([(0,0),(1,0),(2,0),(3,0),(4,0),(5,0),(6,0),(7,0),(8,0),(9,0),(10,0),(11,0)],none)] ?_ ?_;kernel_rfl;simp (config:=qZc) (disch:=first|omega|rfl) only[sD,sB,Za,Zb,Value.cells,one,reduceCtorEq,Zn,layC,z3d,z8t,ld47,zbl,zfe,ld3,z0c,z0j,qk,l3',z0m,el,lp0',isAlloc,isRead])|(refine qZm ?_ ?_;simp (config:=qZc) (disch:=first|omega|rfl) only[sB,Za,reduceCtorEq];refine z05 ?_))
  exact z04 rfl (by simp only[sB,Za,reduceCtorEq];rfl) ⟨rfl,(hx1.bump 13).bump 12⟩
end
theorem isSI:isSl Tryd.prog 60=true:=by kernel_rfl
theorem zuv {H:Heap}{x y:Operand}{a:Addr}{n c:Nat}:dBin Tryd.prog .eql 60 x y (.slice (some a) n c) (.slice none 0 0) H=some (.val (.bool false) H):=by
 simp only[dBin,dnil,isSI,nilEq,if_true]
theorem zuw {n:Nat}{H:Heap}:dBin Tryd.prog .eql 60 (.tmp n) (.const (.slice none 0 0)) (.slice none 0 0) (.slice none 0 0) H=some (.val (.bool true) H):=by kernel_rfl
def idV (l:List Nat):List Value:=l.map fun i=>.int .i64 (i:Nat)
theorem zel (l:List Nat):idC l=(idV l).map fun v=>[v]:=by unfold idC idV;rw[List.map_map];rfl
theorem z9q (l:List Nat):(idV l).length=l.length:=Zt _
theorem z16 (l:List Nat):(idC l).length=l.length:=Zt _
theorem zcd (l:List Nat):(idV l).all one=true:=by
 rw[List.all_eq_true];intro v hv;obtain⟨i,-,rfl⟩:=List.mem_map.1 hv;rfl
theorem zn4 {P:Program}{H:Heap}{t e:TypeId}{s:Nat}{a:Option Addr}{n c:Nat}{k:IntKind}(h:slcOk P t e s):dSl P t (.slice a n c) (some (.int k (0:Int))) none none H=some (.val (.slice a n c) H):=by
 obtain⟨h1,h2,_⟩:=h;obtain⟨i,hi⟩:=Option.isSome_iff_exists.1 h2;have e:intBetween (.int k (0:Int)) n=some 0:=by
  have:=z21 (k:=k) (n:=0) (m:=n) (Zo _);simpa using this
 simp only[dSl,dslice,h1,hi,bound,e];rfl
theorem z5t {i:Nat}(h:i+1<=9223372036854775807):IntKind.i64.wrap ((i:Int)+1)=((i+1:Nat):Int):=by rw[z0d (by omega) (by omega)];omega
section
variable {H:Heap}{B:Nat}{l:List Nat}
set_option maxHeartbeats 4000000 in
theorem zn5 {v:Value}(h:RepO H 3 1 B (idC l) v) (hm:l.length<=most) (hw:H.wf):EvF Tryd.prog okT 48 [v] H fun u H'=>HX H H'/\RepO H' 3 1 H.next (idC l) u:=by
 refine EvF.enter rfl Tryd.func48 (by decide) rfl ?_;have hap:apOk Tryd.prog 60 3 1:=ap60;rcases h with ⟨h0,rfl⟩|⟨b,c,o,rfl⟩
 ·repeat' (first|refine qZa ?_|(refine qZf ?_;try simp only[z06,z01])|(refine qZb ?_;simp (config:=qZc) (disch:=first|omega|rfl) only[sB,initTm,Za,reduceCtorEq,zuw])|(refine qZd ?_ ?_;simp (config:=qZc) (disch:=first|omega|rfl) only[sB,Za,reduceCtorEq];refine z05 ?_))
  exact z04 rfl (by simp only[sG,Za,reduceCtorEq]) ⟨HX.refl hw,.inl ⟨h0,rfl⟩⟩
 ·rw[z16];obtain⟨H1,e1,hx1,g1,n1,w1⟩:=new1 hw (.row [] 3);by_cases hl:l=[]
  ·subst hl;have e7:=zkn (P:=Tryd.prog) (H:=H1) (a:=some ⟨H.next,0,none⟩) (n:=0) (c:=0) (a':=some ⟨b,0,none⟩) (c':=c) hap;simp only[List.length_nil];(repeat refine qZa ?_);refine qZb ?_;simp (config:=qZc) (disch:=first|omega|rfl) only[sA,initTm];(repeat refine qZa ?_);refine qZb ?_;simp (config:=qZc) (disch:=first|omega|rfl) only[sB,Za,reduceCtorEq,zuv];refine qZm (by simp (config:=qZc) (disch:=first|omega|rfl) only[sB,Za,reduceCtorEq]) ?_;(try refine qZe ?_);(try simp only[z00,z03])
   repeat' (first|refine qZa ?_|(refine qZf ?_)|(refine qZb ?_;simp (config:=qZc) (disch:=first|omega|rfl) only[sB,Za,Value.cells,reduceCtorEq,layC,zqf,e1,e7]))
   exact z04 rfl (by simp only[sB,Za,reduceCtorEq];rfl) ⟨hx1,.inr ⟨H.next,0,by rw[<-e1];exact OwnS.ones (vs:=[]) z0i (Zf _) (Zg _) (Zf _) (Zo _) rfl,rfl⟩⟩
  ·have h0:0 < l.length:=List.length_pos_iff.2 hl;rw[zel] at o;obtain⟨b',o',ha,hld⟩:=o.rds.all (by intro q;exact hl (List.length_eq_zero_iff.1 (by rw[<-z9q,q];rfl)));cases ha;rw[z9q] at hld;have e7:=z3a (P:=Tryd.prog) (n:=0) (c:=0) (c':=c) hap h0 (by omega) (by rw[Nat.mul_one];exact hx1.load hw hld) (zcd l) g1 (by simp) (by simp);simp only[ZF,ZL,List.take_zero,List.nil_append] at e7;have hx2:=(hx1.put (i:=H.next) (Zf _) (by omega) none).new (some (.row (idV l) 3));(repeat refine qZa ?_);refine qZb ?_;simp (config:=qZc) (disch:=first|omega|rfl) only[sA,initTm];(repeat refine qZa ?_);refine qZb ?_;simp (config:=qZc) (disch:=first|omega|rfl) only[sB,Za,reduceCtorEq,zuv];refine qZm (by simp (config:=qZc) (disch:=first|omega|rfl) only[sB,Za,reduceCtorEq]) ?_;(try refine qZe ?_);(try simp only[z00,z03])
   repeat' (first|refine qZa ?_|(refine qZf ?_)|(refine qZb ?_;simp (config:=qZc) (disch:=first|omega|rfl) only[sB,Za,Value.cells,reduceCtorEq,layC,zqf,e1,e7]))
   refine z04 rfl (by simp only[sB,Za,reduceCtorEq];rfl) ⟨hx2,.inr ⟨(H1.put H.next none).next,l.length,?_,by rw[z16];rfl⟩⟩;rw[zel];exact OwnS.ones z0i (by show H.next<=H1.next;omega) (Zg _) (by rw[z9q];exact Zf _) (Zk hm (by simp [most,maxLen])) (zcd l)
theorem zem {x y:Int}{p:Nat}(hp:H.get p=some (.row [.int .i64 y] 3)):EvF Tryd.prog okT 50 [.int .i64 x,ptr p] H fun v H'=>v=.bool (decide (x=y))/\H'=H:=by
 refine EvF.enter rfl Tryd.func50 (by decide) rfl ?_;have q:=zn1 hp;unfold ptr;by_cases h:x=y
 ·repeat' (first|refine qZa ?_|(refine qZf ?_)|(refine qZb ?_;simp (config:=qZc) (disch:=first|omega|rfl) only[sB,initTm,Za,reduceCtorEq,ld3,q,z0y h]))
  exact z04 rfl (by simp only[sB,Za,reduceCtorEq];rfl) ⟨by rw[decide_eq_true h],rfl⟩
 ·repeat' (first|refine qZa ?_|(refine qZf ?_)|(refine qZb ?_;simp (config:=qZc) (disch:=first|omega|rfl) only[sB,initTm,Za,reduceCtorEq,ld3,q,z0t h]))
  exact z04 rfl (by simp only[sB,Za,reduceCtorEq];rfl) ⟨by rw[decide_eq_false h],rfl⟩
theorem zr1:callable Tryd.prog 50=true:=by kernel_rfl
abbrev e1v (p:Nat):Value:=.func (.func 50) #[] #[ptr p]
set_option maxHeartbeats 4000000 in
theorem zp9 {id p c:Nat}{a:Option Addr}(r:RdS H (idV l) a c) (hp:H.get p=some (.row [.int .i64 id] 3)):EvF Tryd.prog okT 85 [.slice a l.length c,e1v p] H fun v H' =>
  H'=H/\((∃i,l[i]?=some id/\(∀j,j < i->l[j]?≠some id)/\v=.int .i64 (i:Nat))\/(id∉l/\v=.int .i64 (-1))):=by
 have hlen:=r.len;have hcap:=r.cap;rw[z9q] at hlen;refine EvF.enter rfl Tryd.func85 (by decide) rfl ?_
 repeat' (first|refine qZa ?_|refine qZg ?_|(refine qZb ?_;simp (config:=qZc) (disch:=first|omega|rfl) only[sB,initTm,Za,reduceCtorEq,ln60]))
 refine qZk (fun k st=>∃tm i,st=⟨tm,[],H⟩/\k=l.length - i/\i<=l.length/\(∀j,j < i->l[j]?≠some id)/\tm.get 0=some (.slice a l.length c)/\tm.get 1=some (e1v p)/\tm.get 7=some (.int .i64 (l.length:Nat))/\tm.get 8=some (.int .i64 (i:Nat))) ?_ l.length _ ?_;rotate_left
 ·exact⟨_,0,rfl,rfl,Zo _,fun j hj=>absurd hj (Nat.not_lt_zero _),(by simp only[sG,reduceCtorEq]),(by simp only[sG,Za,reduceCtorEq]),(by simp only[sG,Za,reduceCtorEq]),(by simp only[sB,Za,reduceCtorEq];rfl)⟩
 rintro k st ⟨tm,i,rfl,rfl,hi,hall,t0,t1,t7,t8⟩;by_cases hlt:i < l.length
 ·obtain⟨b,o,rfl,hld⟩:=r.get i (.int .i64 (l[i]:Nat)) (by unfold idV;rw[Zv,Zc hlt];rfl)
  repeat' (first|refine qZa ?_|refine qZg ?_|(refine qZe ?_;try simp only[z00])|(refine qZb ?_;simp (config:=qZc) (disch:=first|omega|rfl) only[sB,Za,reduceCtorEq,ia60,ld3,t0,t1,t7,t8,decl hlt,hld,z2e,z1h zr1])|(refine qZd ?_ ?_;simp (config:=qZc) (disch:=first|omega|rfl) only[sB];refine z05 ?_))
  refine(zem hp).mono ?_;rintro v H' ⟨rfl,rfl⟩;by_cases he:((l[i]:Nat):Int)=(id:Nat)
  ·have he':l[i]=id:=by omega
   repeat' (first|refine qZa ?_|(refine qZf ?_;try simp only[z06,z01])|(refine qZb ?_;simp (config:=qZc) (disch:=first|omega|rfl) only[sB,Za,decide_eq_true he])|(refine qZd ?_ ?_;simp (config:=qZc) (disch:=first|omega|rfl) only[sB,Za,decide_eq_true he];refine z05 ?_))
   exact z04 rfl (by simp only[sG,Za]) ⟨rfl,.inl ⟨i,by rw[Zc hlt,he'],hall,rfl⟩⟩
  ·repeat' (first|(refine qZe ?_;try simp only[sA,decide_eq_false he])|(refine qZb ?_;simp (config:=qZc) (disch:=first|omega|rfl) only[sB,Za,t8,z5t (i:=i) (by unfold maxLen at hcap;omega)])|(refine qZm ?_ ?_;simp (config:=qZc) (disch:=first|omega|rfl) only[sB,Za,decide_eq_false he];refine z05 ?_))
   refine⟨l.length - (i+1),by omega,_,i+1,rfl,rfl,by omega,fun j hj=>?_,(by simp only[sG,reduceCtorEq,t0]),(by simp only[sG,Za,t1]),(by simp only[sG,Za,t7]),(by simp only[sG,Za])⟩;by_cases hj2:j=i
   ·subst hj2;rw[Zc hlt];intro q;cases q;exact he rfl
   ·exact hall j (by omega)
 ·repeat' (first|refine qZa ?_|(refine qZi ?_;try simp only[sB])|(refine qZf ?_)|(refine qZb ?_;simp (config:=qZc) (disch:=first|omega|rfl) only[sA,t7,t8,decn hlt])|(refine qZm ?_ ?_;simp (config:=qZc) (disch:=first|omega|rfl) only[sB];refine z05 ?_))
  refine z04 rfl (by simp only[sG,Za]) ⟨rfl,.inr ⟨fun hm=>?_,rfl⟩⟩;obtain⟨j,hj,he⟩:=ZK hm;exact hall j (by omega) (by rw[Zc hj,he])
end
theorem zjo {H:Heap}{b o:Nat}{cs vs:List Value}{T:TypeId}(hg:H.get b=some (.row cs T)) (h:o+vs.length<=cs.length) (ho:vs.all one=true):H.store ⟨b,o,none⟩ vs=some (H.put b (some (.row (Hb.splice cs o vs) T))):=by
 unfold Heap.store;simp only[hg]
 first
  |rw[if_pos ⟨h,ho⟩]
  |simp [h,ho]
theorem zen {a:Nat}:∀(l:List Nat) (i:Nat),l[i]?=some a->(∀j,j < i->l[j]?≠some a)->l.erase a=l.eraseIdx i
 |[],i,h,_=>by simp at h
 |x :: l,0,h,_=>by simp at h;subst h;simp
 |x :: l,i+1,h,hj=>by
  have hx:x≠a:=fun e=>hj 0 (Nat.succ_pos _) (by simp [e])
  rw[List.erase_cons_tail (by simpa using hx),List.eraseIdx_cons_succ,zen l i (by simpa using h) fun j hji=>by have:=hj (j+1) (by omega);simpa using this]
theorem zn6 (l:List Nat) (i x:Nat):(idC l).set i [.int .i64 (x:Nat)]=idC (l.set i x):=by unfold idC;rw[List.map_set]
theorem zpa (l:List Nat) (i:Nat):(idC l).take i=idC (l.take i):=by unfold idC;rw[List.map_take]
set_option maxHeartbeats 8000000 in
theorem zn7 {H:Heap}{B b c id p:Nat}{l:List Nat}(o:OwnS H 3 1 B (idC l) b c) (hid:id∈l) (hnd:l.Nodup) (hp:H.get p=some (.row [.int .i64 id] 3)) (hpb:p≠b) (hw:H.wf) :
  EvF Tryd.prog okT 49 [.slice (some ⟨b,0,none⟩) l.length c,e1v p] H fun v H'=>v=.slice (some ⟨b,0,none⟩) (l.erase id).length c/\OwnS H' 3 1 B (idC (l.erase id)) b c/\HK (·=b) H H':=by
 have hlc:=o.len;have hcm:=o.cap;rw[z16] at hlc;refine EvF.enter rfl Tryd.func49 (by decide) rfl ?_
 repeat' (first|refine qZa ?_|(refine qZb ?_;simp (config:=qZc) (disch:=first|omega|rfl) only[sB,initTm,Za,reduceCtorEq,cl85]))
 refine(zp9 (by rw[zel] at o;exact o.rds) hp).mono ?_;rintro v H' ⟨rfl,⟨i0,hi0,hfst,rfl⟩|⟨hn,-⟩⟩;rotate_left
 ·exact absurd hid hn
 have hil:=(List.getElem?_eq_some_iff.1 hi0).1;have hm1:((i0:Nat):Int)≠-1:=by omega
 have e9:c<=9223372036854775807:=by unfold maxLen at hcm;exact hcm
 repeat' (first|refine qZa ?_|refine qZg ?_|(refine qZe ?_;try simp only[z00])|(refine qZb ?_;simp (config:=qZc) (disch:=first|omega|rfl) only[sB,Za,reduceCtorEq,z0t hm1,z5t (i:=i0) (by omega)])|(refine qZm ?_ ?_;simp (config:=qZc) (disch:=first|omega|rfl) only[sB,Za,reduceCtorEq];refine z05 ?_))
 have hr:l.erase id=l.eraseIdx i0:=zen l i0 hi0 hfst;have hrl:(l.erase id).length=l.length - 1:=by rw[hr,List.length_eraseIdx,if_pos hil]
 refine qZk (fun k st=>∃tm G m q,st=⟨tm,[],G⟩/\k=l.length - (q+1)/\i0<=q/\q+1<=l.length/\tm.get 0=some (.slice (some ⟨b,0,none⟩) l.length c)/\tm.get 1=some (e1v p)/\tm.get 5=some (.int .i64 (q:Nat))/\tm.get 6=some (.int .i64 ((q+1:Nat):Int)) /\
  OwnS G 3 1 B (idC m) b c/\m.length=l.length/\m.take q=(l.eraseIdx i0).take q/\(∀x,q+1<=x->m[x]?=l[x]?)/\HK (·=b) H' G) ?_ (l.length - (i0+1)) _ ?_
 rotate_left
 ·exact⟨_,_,l,i0,rfl,rfl,Zf _,hil,(by simp only[sG,reduceCtorEq]),(by simp only[sG,Za,reduceCtorEq]),(by simp only[sG,Za,reduceCtorEq]),(by simp only[sG,Za,reduceCtorEq]),o,rfl,by rw[List.eraseIdx_eq_take_drop_succ,List.take_append_of_le_length (by rw[Zp];omega),List.take_take,Nat.min_self],fun _ _=>rfl,HK.refl hw⟩
 rintro k st ⟨tm,G,m,q,rfl,rfl,hq0,hq1,t0,t1,t5,t6,oG,hml,hmt,hmd,hk⟩;have hbG:b < G.next:=oG.hi;obtain⟨cs,hg,hcl,-⟩:=oG.row;rw[z16,Nat.mul_one] at hcl;by_cases hlt:q+1 < l.length
 ·have hx:m[q+1]?=some l[q+1]:=by rw[hmd _ (Zf _),Zc hlt]
  have hld:G.load ⟨b,q+1,none⟩ 1=some [.int .i64 (l[q+1]:Nat)]:=by
   have:=oG.load (i:=q+1) (x:=[.int .i64 (l[q+1]:Nat)]) (by unfold idC;rw[Zv,hx];rfl);rw[Nat.mul_one] at this;exact this
  have hne:((l[q+1]:Nat):Int)≠(id:Nat):=fun e=>by
   have e':l[q+1]=id:=by omega
   have h0:l[i0]=id:=(List.getElem?_eq_some_iff.1 hi0).2;have:=(List.getElem_inj hnd).1 (e'.trans h0.symm);omega
  have hql:q < l.length:=by omega
  have hqcs:q+1<=cs.length:=by omega
  have hpG:G.get p=some (.row [.int .i64 id] 3):=hk.get hw hp hpb
  repeat' (first|refine qZa ?_|refine qZg ?_|(refine qZe ?_;try simp only[z00])|(refine qZb ?_;simp (config:=qZc) (disch:=first|omega|rfl) only[sB,Za,reduceCtorEq,ln60,ia60,ld3,t0,t1,t6,decl hlt,hld,z2e,z1h zr1])|(refine qZd ?_ ?_;simp (config:=qZc) (disch:=first|omega|rfl) only[sB,Za];refine z05 ?_))
  refine(zem hpG).mono ?_;rintro v G' ⟨rfl,rfl⟩
  repeat' (first|refine qZa ?_|(refine qZb ?_;simp (config:=qZc) (disch:=first|omega|rfl) only[sB,Za,one,reduceCtorEq,ia60,st3,t0,t5,t6,hg,hqcs,z5t (i:=q) (by omega),z5t (i:=q+1) (by omega)])|(refine z0n ?_;simp (config:=qZc) (disch:=first|omega|rfl) only[sA,decide_eq_false hne,ZH])|(refine qZd ?_ ?_;simp (config:=qZc) (disch:=first|omega|rfl) only[sB,Za];refine z05 ?_))
  have hset:=oG.set (i:=q) (y:=[.int .i64 (l[q+1]:Nat)]) hg (by rw[z16];omega) rfl rfl;rw[Nat.mul_one,zn6] at hset;refine⟨l.length - (q+1+1),by omega,_,_,m.set q l[q+1],q+1,rfl,rfl,by omega,by omega,(by simp only[sG,reduceCtorEq,t0]),(by simp only[sG,Za,t1]),(by simp only[sG,Za]),(by simp only[sG,Za]),hset,by rw[List.length_set];exact hml,?_,fun x hxq=>?_,hk.put (.inl rfl) hbG _⟩
  ·apply ZN;intro x;rw[ZE,ZE];split
   ·rename_i hxl;rw[ZD];split
    ·rename_i e;subst e;rw[if_pos (by omega),List.getElem?_eraseIdx,if_neg (by omega),Zc hlt]
    ·have:=congrArg (·[x]?) hmt;simp only[ZE] at this;rw[if_pos (by omega),if_pos (by omega)] at this;exact this
   ·rfl
  ·rw[ZD,if_neg (by omega)];exact hmd x (by omega)
 ·have hqe:q+1=l.length:=by omega
  have hlq:l.length - q=1:=by omega
  have hqcs:q+1<=cs.length:=by omega
  have hst:=zjo (o:=q) (vs:=repL 1 [Value.int .i64 0]) hg (by simp [repL];omega) (by simp [repL];rfl);have ehi:=fun H2=>zkm (P:=Tryd.prog) (H:=H2) (t:=60) (e:=3) (s:=1) (a:=some ⟨b,0,none⟩) (n:=l.length) (c:=c) (m:=q) (k:=.i64) sl60 (by omega)
  have hset:=oG.set (i:=q) (y:=[.int .i64 ((0:Nat):Int)]) hg (by rw[z16];omega) rfl rfl;rw[Nat.mul_one,zn6] at hset;have hfin:idC ((m.set q 0).take q)=idC (l.erase id):=by
   rw[hr,List.take_set_of_le (Zf _),hmt,Zl (by rw[<-hr,hrl];omega)]
  have htk:=hset.take (m:=q) (by rw[z16,List.length_set];omega);rw[zpa,hfin] at htk;have hlen:(l.erase id).length=q:=by rw[hrl];omega
  have fin:OwnS (G.put b (some (.row (Hb.splice cs q (repL 1 [Value.int .i64 0])) 3))) 3 1 B (idC (l.erase id)) b c:=by
   have e:repL 1 [Value.int .i64 0]=[Value.int .i64 ((0:Nat):Int)]:=by simp [repL]
   rw[e];exact htk
  by_cases h0:q=0
  ·subst h0;have e1:l.length=1:=by omega
   have esl:dSl Tryd.prog 60 (.slice (some ⟨b,0,none⟩) l.length c) (some (.int .i64 0)) none none G=some (.val (.slice (some ⟨b,0,none⟩) 1 c) G):=by
    rw[e1];exact zn4 (e:=3) (s:=1) sl60
   have eclr:=zd2 (c:=c) (t:=60) mk60 (by omega) hst;have ehi':=fun H2=>(ehi H2)
   rw[z39] at fin;rw[hlen];simp only[Int.natCast_zero] at t5 ehi'
   repeat' (first|refine qZa ?_|(refine qZi ?_;try simp only[sB])|(refine qZf ?_)|(refine qZb ?_;simp (config:=qZc) (disch:=first|omega|rfl) only[sB,Za,reduceCtorEq,ln60,t0,t5,t6,decn hlt,esl,zd1,eclr,ehi'])|(refine qZm ?_ ?_;simp (config:=qZc) (disch:=first|omega|rfl) only[sB,Za];refine z05 ?_))
   refine z04 rfl (by simp only[sG,Za]) ⟨rfl,fin,hk.put (.inl rfl) hbG _⟩
  ·have esl:=ztf (P:=Tryd.prog) (t:=60) (e:=3) (s:=1) (b:=b) (o:=0) (n:=l.length) (c:=c) (l:=q) (k:=.i64) sl60 (by omega) (by omega) (by omega) hg (.inl ⟨_,rfl⟩);rw[ZF,Nat.mul_one,hlq] at esl;have eclr:=zd2 (c:=c - q) (t:=60) mk60 (by omega) hst
   repeat' (first|refine qZa ?_|(refine qZi ?_;try simp only[sB])|(refine qZf ?_)|(refine qZb ?_;simp (config:=qZc) (disch:=first|omega|rfl) only[sB,Za,reduceCtorEq,ln60,t0,t5,t6,decn hlt,esl,zd1,eclr,ehi])|(refine qZm ?_ ?_;simp (config:=qZc) (disch:=first|omega|rfl) only[sB,Za];refine z05 ?_))
   rw[hlen];refine z04 rfl (by simp only[sG,Za]) ⟨rfl,fin,hk.put (.inl rfl) hbG _⟩
section
variable {H:Heap}{B d:Nat}{D:Db}
def Db.ids (D:Db) (k:PK):List Nat:=match D.idx k with
 |some i=>(D.procs[i]?.map (·.ids)).getD []
 |none=>[]
theorem Db.ids_some {D:Db}{k:PK}{i:Nat}{p:Prc}(h:D.idx k=some i) (hp:D.procs[i]?=some p):D.ids k=p.ids:=by
 unfold Db.ids;rw[h];simp only[hp];rfl
theorem Db.ids_none {D:Db}{k:PK}(h:D.idx k=none):D.ids k=[]:=by
 unfold Db.ids;rw[h]
set_option maxHeartbeats 4000000 in
theorem zr2 (h:DbB H B d D) (hw:H.wf) {k:PK}(hm:(D.ids k).length<=most):EvF Tryd.prog okT 20 [ptr d,.string sUser,kkv k] H fun v H'=>HX H H'/\RepO H' 3 1 H.next (idC (D.ids k)) v:=by
 obtain⟨r0,a1,c1,r3,r4,r5,r6,cells,hs,hl,l0,l1,l2,l3,q1,q2,m0,m3⟩:=h.open;refine EvF.enter rfl Tryd.func20 (by decide) rfl ?_;(repeat refine qZa ?_);refine qZb ?_;simp (config:=qZc) (disch:=first|omega|rfl) only[sB,initTm,dBox,Za,Zb,Value.cells,one,reduceCtorEq];obtain⟨H1,e1,hx1,g1,n1,w1⟩:=new1 hw (.row [.string k.1,.int .i64 k.2] 47);simp only[e1];clear e1;have qk:=z6r g1;have l3':=hx1.load hw l3;have m3':MapK pkv H1 r3 (procK D):=m3.heap (hx1.keep _ (by obtain⟨es,c,g,-⟩:=m3;exact hw _ _ g));cases hi:D.idx k with
 |none =>
  have el:=zn3 m3' hi
  repeat' (first|refine qZa ?_|(refine qZf ?_;try simp only[z06,z01])|(refine qZb ?_;simp (config:=qZc) (disch:=first|omega|rfl) only[sA])|(refine qZj (id:=1) [([(0,0),(1,0),(2,0),(3,0),(4,0),(5,0),(6,0),(7,0),(8,0),(9,0),(10,0),(11,0),(12,0)],none)] ?_ ?_;kernel_rfl;simp (config:=qZc) (disch:=first|omega|rfl) only[sD,sB,Za,Zb,Value.cells,one,reduceCtorEq,Zn,layC,z3d,z8t,ld47,zbl,z0c,z0j,bEqP,qk,l3',z0m,el,prE0,isAlloc,isRead])|(refine qZd ?_ ?_;simp (config:=qZc) (disch:=first|omega|rfl) only[sB,Za,reduceCtorEq];refine z05 ?_))
  exact z04 rfl (by simp only[sG,Za,reduceCtorEq]) ⟨hx1.bump 13,.inl ⟨by rw[Db.ids_none hi];rfl,rfl⟩⟩
 |some i =>
  obtain⟨p,hp,hk⟩:=Db.idx_some hi;have el:=zp8 m3' hi hp;obtain⟨a,c,hps,lp0,lp1,-⟩:=h.pr hp;have lp1':=hx1.load hw lp1;rw[Db.ids_some hi hp] at hm ⊢;have hb:=(hx1.bump 13).bump 13;have hro:RepO ⟨H1.next+13+13,H1.t⟩ 3 1 B (idC p.ids) (.slice a p.ids.length c):=RepO.keep (hps.fld 1 _ _ rfl rfl) hb
  repeat' (first|refine qZa ?_|(refine qZe ?_;try simp only[z00])|(refine qZj (id:=1) [([(0,0),(1,0),(2,0),(3,0),(4,0),(5,0),(6,0),(7,0),(8,0),(9,0),(10,0),(11,0),(12,0)],none)] ?_ ?_;kernel_rfl;simp (config:=qZc) (disch:=first|omega|rfl) only[sD,sB,Za,Zb,Value.cells,one,reduceCtorEq,Zn,layC,z3d,z8t,ld47,zbl,z0c,z0j,bEqP,qk,l3',z0m,el,prE,Ze,isAlloc,isRead])|(refine qZj (id:=3) [([(0,0),(1,0),(2,0),(3,0),(4,0),(5,0),(6,0),(7,0),(8,0),(9,0),(10,0)],some 11),([(12,1)],none)] ?_ ?_;kernel_rfl;simp (config:=qZc) (disch:=first|omega|rfl) only[sD,sB,Za,Zb,Value.cells,one,reduceCtorEq,Zn,layC,z3d,z8t,ld47,zbl,zbm,ld60,cl48,z0c,z0j,qk,l3',z0m,el,lp1',isAlloc,isRead])|(refine qZm ?_ ?_;simp (config:=qZc) (disch:=first|omega|rfl) only[sB,Za,reduceCtorEq];refine z05 ?_))
  refine(zn5 hro hm hb.wf).mono ?_;rintro v H2 ⟨hx2,hv⟩
  repeat' (first|(refine qZf ?_)|(refine z0q ?_;simp (config:=qZc) (disch:=first|omega|rfl) only[sD,sB,Za,reduceCtorEq,isAlloc,isRead]))
  exact z04 rfl (by simp only[sG,Za,reduceCtorEq]) ⟨hb.trans hx2,hv.low (by show H.next<=H1.next+13+13;omega)⟩
end
theorem zjp {fn:Func}{tm:Tr Value}{H:Heap}{K:Value->Heap->Prop}{a q p r:Tmp}{t:TypeId}{ad:Addr}{v u y z:Value}(h:fn.results.toList=[.tmp q,.cell a t,.tmp p,.tmp r]) (hu:tm.get q=some u) (hv:tm.get a=some (.pointer (some ad))) (hd:dLoad Tryd.prog t (.pointer (some ad)) H=some (.val v H)) (hy:tm.get p=some y) (hz:tm.get r=some z)
  (hk:K (.tuple ⟨[u,v,y,z]⟩) H):Ex.leave Tryd.prog ok fn K .ret ⟨tm,[],H⟩:=by
 refine EvV.now (v:=.tuple ⟨[u,v,y,z]⟩) ?_ hk;have hl:dload Tryd.prog t ad H=some v:=by
  unfold dLoad at hd;simp only at hd;cases h1:dload Tryd.prog t ad H with
  |none=>rw[h1] at hd;simp at hd
  |some w=>rw[h1] at hd;simp at hd;rw[hd]
 simp [dres,h,dresL,dres1,hv,hl,hu,hy,hz]
abbrev nineT (x:Ln) (ha:Option Addr) (hc:Nat) (ta:Option Addr) (tc:Nat) (a:Option Addr) (k:Nat):List Value :=
 [.string sUser,.string x.key.1,.int .i64 x.key.2,.int .i64 x.c.head.kind,.string x.c.head.name,.string x.c.head.num,.int .u64 x.c.head.bits,.int .i64 x.c.head.var,.slice ha x.c.head.args.length hc,.int .i64 x.c.body.kind,.int .i64 x.c.body.term.kind,.string x.c.body.term.name,.string x.c.body.term.num,.int .u64 x.c.body.term.bits,.int .i64 x.c.body.term.var,.slice ta x.c.body.term.args.length tc,.slice a x.c.body.sub.length k,.int .i64 x.c.vars,.bool x.there]
theorem zux {H:Heap}{p:Nat}{T:TypeId}{x0 x1 x2 x3 x4 x5 x6 x7 x8 x9 xa xb xc xd xe xf xg xh xi:Value}(h:H.get p=some (Blk.row [x0,x1,x2,x3,x4,x5,x6,x7,x8,x9,xa,xb,xc,xd,xe,xf,xg,xh,xi] T)) :
  H.load ⟨p,0,none⟩ 1=some [x0]/\H.load ⟨p,0,none⟩ 3=some [x0,x1,x2]/\H.load ⟨p,3,none⟩ 15=some [x3,x4,x5,x6,x7,x8,x9,xa,xb,xc,xd,xe,xf,xg,xh]/\H.load ⟨p,18,none⟩ 1=some [xi]/\H.load ⟨p,0,none⟩ 19=some [x0,x1,x2,x3,x4,x5,x6,x7,x8,x9,xa,xb,xc,xd,xe,xf,xg,xh,xi]:=by
 refine⟨?_,?_,?_,?_,?_⟩<;>simp only[Heap.load,Heap.cells,h]<;>rfl
abbrev zero19:List Value:=[.string Zd,.string Zd,.int .i64 0,.int .i64 0,.string Zd,.string Zd,.int .u64 0,.int .i64 0,.slice none 0 0,.int .i64 0,.int .i64 0,.string Zd,.string Zd,.int .u64 0,.int .i64 0,.slice none 0 0,.slice none 0 0,.int .i64 0,.bool false]
section
variable {H:Heap}{B d:Nat}{D:Db}
theorem DbB.line (h:DbB H B d D) {a1:Option Addr}{c1:Nat}{cells:List (List Value)}{v0 v2 v3 v4 v5 v6:Value}(hs:StR H B d 110 (dFlds D cells) [v0,.slice a1 D.lines.length c1,v2,v3,v4,v5,v6]) (hl:LnsR H (Off H d D) D.lines cells) {i:Nat}{x:Ln}(hx:D.lines[i]?=some x) :
  ∃b ha hc ta tc a k,a1=some ⟨b,0,none⟩/\OwnS H 121 19 B cells b c1/\cells[i]?=some (nineT x ha hc ta tc a k)/\H.load ⟨b,i*19,none⟩ 19=some (nineT x ha hc ta tc a k)/\RepD H (Off H d D) x.c (fift x.c.head ha hc x.c.body.kind x.c.body.term ta tc a x.c.body.sub.length k x.c.vars):=by
 obtain⟨cs,hc,hr⟩:=hl.2 i x hx;have hr0:=hr;obtain⟨ha,hc',ta,tc,a,k,rfl,-,-⟩:=hr;obtain⟨b,rfl,o,ld⟩:=hs.el (i:=1) (k:=i) rfl rfl hc;exact⟨b,ha,hc',ta,tc,a,k,rfl,o,hc,ld,hr0⟩
set_option maxHeartbeats 8000000 in
theorem zeo (h:DbB H B d D) (hw:H.wf) {i:Nat}{x:Ln}(hx:D.lines[i]?=some x) (hh:x.c.head=zeroT\/checkS x.c.head=0) (hb:OwB x.c.body) :
  EvF Tryd.prog okT 21 [ptr d,.int .i64 (i:Nat)] H fun v H'=>HX H H'/\∃out,v=.tuple ⟨[.string sUser,.agg ⟨out⟩,.bool x.there,.int .i64 0]⟩/\RepD H' (Rg H.next H'.next) x.c out:=by
 obtain⟨r0,a1,c1,r3,r4,r5,r6,cells,hs,hl,l0,l1,l2,l3,q1,q2,m0,m3⟩:=h.open;obtain⟨b,ha,hc,ta,tc,a,k,rfl,o,hcell,ld,hrep⟩:=h.line hs hl hx;have hi:=(List.getElem?_eq_some_iff.1 hx).1;refine EvF.enter rfl Tryd.func21 (by decide) rfl ?_;(repeat refine qZa ?_);refine qZb ?_;simp (config:=qZc) (disch:=first|omega|rfl) only[sA,initTm,dAlloc,zr55];obtain⟨H1,e1,hx1,g1,n1,w1⟩:=new1 hw (.row zero15 55);simp only[e1];clear e1;have l1':=hx1.load hw l1;have d1:decide ((i:Int) < 0)=false:=decide_eq_false (by omega);have d2:decide ((i:Int) >= (D.lines.length:Int))=false:=decide_eq_false (by omega);have ld':=hx1.load hw ld;obtain⟨H2,e2,hx2,g2,n2,w2⟩:=z0r w1 (.row zero19 121) (.row (nineT x ha hc ta tc a k) 121);have q2':=zux g2;have g1':=hx2.get w1 g1
 repeat' (first|refine qZa ?_|refine qZg ?_|(refine qZe ?_;try simp only[sA])|(refine qZb ?_;simp (config:=qZc) (disch:=first|omega|rfl) only[sB,dAlloc,Za,Zb,one,reduceCtorEq,z4n,zdg,zkz,zo2,zvb,zvc,zvd,z0c,z0j,bEqP,l1',d1,d2,ld',e2,Ze])|(refine qZj [([(3,0),(4,0)],some 5),([(0,0),(1,0),(2,0),(8,1)],some 9),([(6,0),(7,0),(10,2),(11,2)],none)] ?_ ?_;kernel_rfl;simp (config:=qZc) (disch:=first|omega|rfl) only[sD,sB,Za,Zb,reduceCtorEq,zrn,ld55,cl46,q2',isAlloc,isRead])|(refine qZm ?_ ?_;simp (config:=qZc) (disch:=first|omega|rfl) only[sB,Za,reduceCtorEq];refine z05 ?_))
 have hb2:=(HX.refl w2).bump 12;have h02:HX H ⟨H2.next+12,H2.t⟩:=(hx1.trans hx2).trans hb2;have hrd:RdC ⟨H2.next+12,H2.t⟩ x.c (fift x.c.head ha hc x.c.body.kind x.c.body.term ta tc a x.c.body.sub.length k x.c.vars):=hrep.rd.mono h02 hw;refine(zn0 hrd hh hb hb2.wf).mono ?_;rintro v H3 ⟨hx3,out,rfl,hout⟩;have hout0:=hout;obtain⟨oa,oc,xa,xc,ya,yc,rfl,-,-⟩:=hout;have g13:=hx3.get hb2.wf (hb2.get w2 g1');have q23:=zux (hx3.get hb2.wf (hb2.get w2 g2));have n3:H2.next+12<=H3.next:=hx3.next;have ne1:(H1.next=H.next)=False:=eq_false (by omega)
 repeat' (first|(refine qZf ?_)|(refine z0q ?_;simp (config:=qZc) (disch:=first|omega|rfl) only[sV,sD,sB,Za,Zb,one,reduceCtorEq,cutC,st55,zl1,zrm,ld9,zbn,ld4,q2',q23,g13,ne1,isAlloc,isRead]))
 have hz:=(h02.trans hx3).pt (i:=H.next) (Zf _) g13 (some (.row (fift x.c.head oa oc x.c.body.kind x.c.body.term xa xc ya x.c.body.sub.length yc x.c.vars) 55));refine zjp rfl (by simp only[sG,Za,reduceCtorEq]) (by simp only[sB,Za,reduceCtorEq];rfl) (by simp only[sB,Zb,cutC,ld55]) (by simp only[sG,Za,reduceCtorEq]) (by simp only[sG,Za,reduceCtorEq]) ⟨hz,_,rfl,hout0.to fun n hn hl=>?_⟩;have a1:H2.next+12<=n:=hn.1;exact⟨by rw[get_put,if_neg (by omega)],⟨by omega,by rw[z07];exact hl⟩,by rw[z07];exact hl⟩
end
structure DbW (D:Db):Prop where
 nd:(D.procs.map (·.key)).Nodup
 ids:∀p∈D.procs,p.ids.Nodup/\∀i∈p.ids,∃x,D.lines[i]?=some x/\x.key=p.key/\x.there=true
 th:∀(i:Nat) (x:Ln),D.lines[i]?=some x->x.there=true->∃p∈D.procs,p.key=x.key/\i∈p.ids
 good:∀x∈D.lines,GoodC x.c
theorem DbW.one {D:Db}(w:DbW D) {i j:Nat}{p q:Prc}(hi:D.procs[i]?=some p) (hj:D.procs[j]?=some q) (h:q.key=p.key):j=i:=by
 have h1:(D.procs.map (·.key))[i]?=some p.key:=by rw[Zv,hi];rfl
 have h2:(D.procs.map (·.key))[j]?=some p.key:=by rw[Zv,hj,<-h];rfl
 have hil:=(List.getElem?_eq_some_iff.1 h1)
 have hjl:=(List.getElem?_eq_some_iff.1 h2)
 exact(List.getElem_inj w.nd).1 (hjl.2.trans hil.2.symm)
theorem DbW.idx {D:Db}(w:DbW D) {p:Prc}(hp:p∈D.procs):∃i,D.idx p.key=some i/\D.procs[i]?=some p:=by
 cases h:D.idx p.key with
 |none=>exact absurd rfl (Db.idx_none h p hp)
 |some i =>
  obtain⟨q,hq,hk⟩:=Db.idx_some h;obtain⟨j,hj,he⟩:=ZK hp;have hj':D.procs[j]?=some p:=by rw[Zc hj,he]
  have:=w.one hq hj' hk.symm;subst this;exact⟨j,rfl,hj'⟩
theorem zft {cs el:List Value}{o j:Nat}{v:Value}(he:(cs.drop o).take el.length=el) (hj:j < el.length) (ho:o+el.length<=cs.length):Hb.splice cs (o+j) [v]=Hb.splice cs o (el.set j v):=by
 apply ZN;intro k;rw[z6c (by simp;omega),z6c (by rw[List.length_set];exact ho)];simp only[List.length_singleton,List.length_set];by_cases h1:o+j<=k/\k < o+j+1
 ·rw[if_pos h1,if_pos (by omega)];have:k=o+j:=by omega
  subst this;rw[show o+j - (o+j)=0 by omega,show o+j - o=j by omega,ZD,if_pos rfl,if_pos hj];rfl
 ·rw[if_neg h1];by_cases h2:o<=k/\k < o+el.length
  ·rw[if_pos h2,ZD,if_neg (by omega)];have:=congrArg (·[k - o]?) he;simp only[ZE,List.getElem?_drop] at this;rw[if_pos (by omega),show o+(k - o)=k by omega] at this;exact this
  ·rw[if_neg h2]
section
variable {H:Heap}{B d:Nat}{D:Db}
theorem DbB.flag (h:DbB H B d D) (hw:H.wf) {b c1:Nat}{cells:List (List Value)}{cs:List Value}{v0 v2 v3 v4 v5 v6:Value}(hs:StR H B d 110 (dFlds D cells) [v0,.slice (some ⟨b,0,none⟩) D.lines.length c1,v2,v3,v4,v5,v6]) (hl:LnsR H (Off H d D) D.lines cells)
  {i:Nat}{x:Ln}(hx:D.lines[i]?=some x) (hg:H.get b=some (.row cs 121)) (t:Bool) :
  ∃H2,H.put b (some (.row (Hb.splice cs (i*19+18) [.bool t]) 121))=H2/\DbB H2 B d { D with lines:=D.lines.set i { x with there:=t } }/\DX H H2 d D { D with lines:=D.lines.set i { x with there:=t } }/\H2.wf/\H2.next=H.next /\
   ∃cells',StR H2 B d 110 (dFlds { D with lines:=D.lines.set i { x with there:=t } } cells') [v0,.slice (some ⟨b,0,none⟩) D.lines.length c1,v2,v3,v4,v5,v6]/\LnsR H2 (Off H2 d { D with lines:=D.lines.set i { x with there:=t } }) (D.lines.set i { x with there:=t }) cells':=by
 obtain⟨b',ha,hc,ta,tc,a,k,e,o,hcell,ld,hrep⟩:=h.line hs hl hx;cases e;have hil:i < cells.length:=(List.getElem?_eq_some_iff.1 hcell).1;obtain⟨cs',hg',hle,hfl⟩:=o.row;rw[hg] at hg';cases hg';have hlen:i*19+19<=cs.length:=by
  have:(i+1)*19<=cells.length*19:=Nat.mul_le_mul_right _ hil;omega
 have hel:(cs.drop (i*19)).take (nineT x ha hc ta tc a k).length=nineT x ha hc ta tc a k:=by
  have:=ld;unfold Heap.load Heap.cells at this;simp only[hg] at this;split at this
  ·exact Option.some.inj this
  ·cases this
 have hsp:=zft (v:=.bool t) (j:=18) hel (by show 18 < 19;omega) (by show i*19+19<=_;exact hlen);obtain⟨H2,e2,hs2,sx⟩:=hs.write hw (i:=1) (k:=i) (y:=nineT { x with there:=t } ha hc ta tc a k) rfl rfl hil hg rfl rfl;have he:Hb.splice cs (i*19+18) [.bool t]=Hb.splice cs (i*19) (nineT { x with there:=t } ha hc ta tc a k):=hsp;refine⟨H2,by rw[he];exact e2,?_⟩;have hoff:∀S:Nat->Prop,(∀n,Off H d D n->S n)->∀n,Off H d D n->n < H.next->H2.get n=H.get n/\S n/\n < H2.next:=fun S h1 n hn hl=>⟨sx.hk.keep n hl fun q=>hn.2 (.inl q),h1 n hn,Zh hl sx.next⟩
 have hls:∀S:Nat->Prop,(∀n,Off H d D n->S n)->LnsR H2 S (D.lines.set i { x with there:=t }) (cells.set i (nineT { x with there:=t } ha hc ta tc a k)):=fun S h1=>⟨by simp only[List.length_set];exact hl.1,fun j y hy=>by
  simp only[ZD] at hy ⊢;by_cases hj:i=j
  ·subst hj;rw[if_pos rfl,if_pos (by rw[<-hl.1];exact hil)] at hy;cases hy;rw[if_pos rfl,if_pos hil];exact⟨_,rfl,hrep.to (hoff S h1)⟩
  ·rw[if_neg hj] at hy ⊢;obtain⟨cs2,q1,q2⟩:=hl.2 j y hy;exact⟨cs2,q1,q2.to (hoff S h1)⟩⟩
 have hx2:=h.turn (D':={ D with lines:=D.lines.set i { x with there:=t } }) hw (cells':=cells.set i (nineT { x with there:=t } ha hc ta tc a k)) hs2 sx (fun _ h=>h) fun S h1 h2=>hls S h1
 exact⟨hx2.1,hx2.2,sx.wf,by rw[<-e2];rfl,_,hs2,hls _ fun n hn=>(hx2.2.off hn).2.1⟩
theorem DbB.count (h:DbB H B d D) (hw:H.wf) {cells:List (List Value)}{v0 v1 v2 v3 v4 v5 v6:Value}(hs:StR H B d 110 (dFlds D cells) [v0,v1,v2,v3,v4,v5,v6]) (hl:LnsR H (Off H d D) D.lines cells) (m:Int) :
  ∃H2,H.put d (some (.row [v0,v1,.int .i64 m,v3,v4,v5,v6] 110))=H2/\DbB H2 B d { D with n:=m }/\DX H H2 d D { D with n:=m }/\H2.wf/\H2.next=H.next/\StR H2 B d 110 (dFlds { D with n:=m } cells) [v0,v1,.int .i64 m,v3,v4,v5,v6]/\LnsR H2 (Off H2 d { D with n:=m }) D.lines cells:=by
 obtain⟨hs2,sx⟩:=hs.setv hw (i:=2) (v':=.int .i64 m) rfl rfl rfl;have:=h.turn (D':={ D with n:=m }) hw (cells':=cells) hs2 sx (fun _ h=>h) fun S h1 h2=>hl.to fun n hn hl=>⟨sx.hk.keep n hl fun q=>hn.2 (.inl q),h1 n hn,Zh hl sx.next⟩
 exact⟨_,rfl,this.1,this.2,sx.wf,rfl,hs2,hl.to fun n hn hl=>⟨sx.hk.keep n hl fun q=>hn.2 (.inl q),(this.2.off hn).2.1,Zh hl sx.next⟩⟩
theorem HK.sx {s:Nat}{S:Nat->Prop}{H H':Heap}(h:HK S H H') (hs:∀n,n < H.next->S n->Mut H s n) (hn:¬S s) (hl:s < H.next):SX s H H' :=
 ⟨h.sub hs,fun n q=>by
  have e:=h.keep s hl hn;rcases q with q|⟨V,T,hg,q⟩
  ·exact .inl (.inl q)
  ·exact .inl (.inr ⟨V,T,e.symm.trans hg,q⟩)⟩
theorem DbB.setIds (h:DbB H B d D) (hw:H.wf) {i:Nat}{p:Prc}{v:Value}(hp:D.procs[i]?=some p) (hone:∀j q,D.procs[j]?=some q->q=p->j=i) (hs:StR H B p.blk 118 (pFlds p) [.int .i64 2,v]) {H2:Heap}(hw2:H2.wf) (hn:H.next<=H2.next) (hk:∀n,n < H.next->blkOf v≠some n->H2.get n=H.get n)
  {l:List Nat}{v':Value}(hv:RepO H2 3 1 B (idC l) v') (hb:∀n,blkOf v'=some n->blkOf v=some n\/H.next<=n) (ho:one v'=true) :
  ∃H3,H2.put p.blk (some (.row [.int .i64 2,v'] 118))=H3/\DbB H3 B d { D with procs:=D.procs.set i { p with ids:=l } }/\DX H H3 d D { D with procs:=D.procs.set i { p with ids:=l } }/\H3.wf/\H3.next=H2.next:=by
 obtain⟨hs2,sx⟩:=hs.put hw hw2 hn (i:=1) (v:=v) (v':=v') rfl hk (f':=.sl 3 1 (idC l)) hv hb ho;have:=h.turnP (p:=p) (p':={ p with ids:=l }) hw hp hone (v':=v') hs2 sx rfl rfl;exact⟨_,rfl,this.1,this.2,sx.wf,rfl⟩
theorem mk3 {cells:List (List Value)}{v0 v1 v2 v4 v5 v6:Value}{r3:Nat}(hs:StR H B d 110 (dFlds D cells) [v0,v1,v2,.map (some r3),v4,v5,v6]):MapK pkv H r3 (procK D):=by
 obtain⟨r,es,k,e,-,-,g,m⟩:=hs.fld 3 _ _ rfl rfl;cases e;exact⟨es,k,g,by rw[m];unfold procM procK;rw[List.map_map];rfl⟩
def Db.gone (D:Db) (i j:Nat) (x:Ln) (p:Prc):Db:={ lines:=D.lines.set i { x with there:=false },procs:=D.procs.set j { p with ids:=p.ids.erase i },n:=IntKind.i64.wrap (D.n - 1) }
set_option maxHeartbeats 16000000 in
theorem zi6 (h:DbB H B d D) (w:DbW D) (hw:H.wf) {i j:Nat}{x:Ln}{p:Prc}(hx:D.lines[i]?=some x) (ht:x.there=true) (hj:D.idx x.key=some j) (hp:D.procs[j]?=some p) (hm:i∈p.ids) :
  EvF Tryd.prog okT 22 [ptr d,.int .i64 (i:Nat)] H fun v H'=>v=.int .i64 0/\DbB H' B d (D.gone i j x p)/\DX H H' d D (D.gone i j x p)/\H'.wf:=by
 obtain⟨r0,a1,c1,r3,r4,r5,r6,cells,hs,hl,l0,l1,l2,l3,q1,q2,m0,m3⟩:=h.open;obtain⟨b,ha,hc,ta,tc,a,k,rfl,o,hcell,ld,hrep⟩:=h.line hs hl hx;have hi:=(List.getElem?_eq_some_iff.1 hx).1;refine EvF.enter rfl Tryd.func22 (by decide) rfl ?_;(repeat refine qZa ?_);refine qZb ?_;simp (config:=qZc) (disch:=first|omega|rfl) only[sB,initTm,dBox,Value.cells,one,reduceCtorEq];obtain⟨H1,e1,hx1,g1,n1,w1⟩:=new1 hw (.row [.int .i64 (i:Nat)] 3);simp only[e1];clear e1;have l1':=hx1.load hw l1;have qi:=zn1 g1;have d1:decide ((i:Int) < 0)=false:=decide_eq_false (by omega);have d2:decide ((i:Int) >= (D.lines.length:Int))=false:=decide_eq_false (by omega);have lth:H1.load ⟨b,i*19+18,none⟩ 1=some [.bool true]:=by
  have:=hx1.load hw (o.part (i:=i) (j:=18) (n:=1) hcell (by omega));rw[<-ht];exact this
 obtain⟨cs,hg,hle,-⟩:=o.row;have hcl:cells.length=D.lines.length:=hl.1;have hlen:i*19+19<=cs.length:=by
  have:(i+1)*19<=cells.length*19:=Nat.mul_le_mul_right _ (by omega);omega
 obtain⟨H2,e2⟩:∃H2:Heap,(⟨H1.next+23+7,H1.t⟩:Heap)=H2:=⟨_,rfl⟩
 have hx2:HX H H2:=by rw[<-e2];exact(hx1.bump 23).bump 7
 have w2:=hx2.wf;have l12:=hx2.load hw l1;have qi2:H2.load ⟨H.next,0,none⟩ 1=some [.int .i64 (i:Nat)]:=by rw[<-e2];exact qi
 obtain⟨h2,dx2⟩:=h.keep hw hx2;have hs2:=hs.keep hw hx2;have hl2:LnsR H2 (Off H2 d D) D.lines cells:=hl.to fun n hn _=>⟨(dx2.off hn).1,(dx2.off hn).2.1,(dx2.off hn).2.2⟩
 have hg2:=hx2.get hw hg;obtain⟨H3,e3,h3,dx3,w3,n3,z8y,hs3,hl3⟩:=h2.flag w2 hs2 hl2 hx hg2 false;have hle2:i*19+18+1<=cs.length:=by omega
 obtain⟨H4,e4,h4,dx4,w4,n4,hs4,hl4⟩:=h3.count w3 hs3 hl3 (IntKind.i64.wrap (D.n - 1));have l23:H3.load ⟨d,2,none⟩ 1=some [.int .i64 D.n]:=hs3.load rfl;have gd3:=hs3.obj;have l34:H4.load ⟨d,3,none⟩ 1=some [.map (some r3)]:=hs4.load rfl;have hx4:(D.lines.set i { x with there:=false })[i]?=some { x with there:=false }:=by rw[ZD,if_pos rfl,if_pos hi]
 have hlc:(D.lines.set i { x with there:=false }).length=D.lines.length:=List.length_set;obtain⟨b4,ha4,hc4,ta4,tc4,a4,k4,eb4,o4,hcell4,-,-⟩:=h4.line (a1:=some ⟨b,0,none⟩) (c1:=c1) (by simp only[hlc];exact hs4) hl4 hx4;cases eb4;have lpl:H4.load ⟨b,i*19,none⟩ 3=some [.string sUser,.string x.key.1,.int .i64 x.key.2]:=by
  have:=o4.part (i:=i) (j:=0) (n:=3) hcell4 (by omega);rw[Nat.add_zero] at this;exact this
 have el:=zp8 (D:={ lines:=D.lines.set i { x with there:=false },procs:=D.procs,n:=IntKind.i64.wrap (D.n - 1) }) (k:=x.key) (mk3 hs4) (i:=j) (p:=p) hj hp;obtain⟨H5,e5⟩:∃H5:Heap,(⟨H4.next+10,H4.t⟩:Heap)=H5:=⟨_,rfl⟩
 have hx5:HX H4 H5:=by rw[<-e5];exact(HX.refl w4).bump 10
 have w5:=hx5.wf;obtain⟨h5,dx5⟩:=h4.keep w4 hx5;obtain⟨pa,pc,hps,lp0,lp1,-⟩:=h5.pr (i:=j) (p:=p) hp;have hro:=hps.fld 1 _ _ rfl rfl;rcases hro with ⟨he,-⟩|⟨b',c',o',e'⟩
 ·exfalso;have:p.ids=[]:=List.length_eq_zero_iff.1 (by rw[<-z16,he];rfl);rw[this] at hm;cases hm
 rw[z16] at e';cases e';have hnd:=(w.ids p (Zr hp)).1;have hbl:b < H.next:=o.hi;have hdl:d < H.next:=h.lt hw;have g15:H5.get H.next=some (.row [.int .i64 (i:Nat)] 3):=by
  have a1:H2.get H.next=some (.row [.int .i64 (i:Nat)] 3):=by rw[<-e2];exact g1
  rw[<-e5,z7u,<-e4,get_put,if_neg (by omega),<-e3,get_put,if_neg (by omega)];exact a1
 have hpm:p∈D.procs:=Zr hp;obtain⟨a0,c0,hps0,-,-,-,-⟩:=h.pr hp;have hpb:p.blk≠b:=fun e=>h.apart hpm (n:=b) (.inr ⟨_,_,hs.obj,.slice (some ⟨b,0,none⟩) D.lines.length c1,by simp,rfl⟩) (.inl e.symm)
 have hpd:p.blk≠d:=fun e=>h.apart hpm (n:=d) (.inl rfl) (.inl e.symm)
 have hpg:H5.get p.blk=H.get p.blk:=by
  rw[<-e5,z7u,<-e4,get_put,if_neg hpd,<-e3,get_put,if_neg hpb];exact hx2.keep _ (hps0.lt hw)
 have hne:H.next≠b':=fun e=>by
  have q:=hpg.symm.trans hps.obj;rw[hps0.obj] at q;cases q;rcases hps0.fld 1 _ _ rfl rfl with ⟨-,q⟩|⟨b2,c2,o2,q⟩
  ·cases q
  ·injection q with q1 q2 q3;injection q1 with q1;injection q1 with q1;have:=o2.hi;omega
 have l35:=hx5.load w4 l34;have lpl5:=hx5.load w4 lpl;have el5:dLk Tryd.prog 104 (.map (some r3)) (pkv x.key) false H5=some (.val (ptr p.blk) H5):=by rw[<-e5];exact el _
 repeat' (first|refine qZa ?_|refine qZg ?_|(refine qZe ?_;try simp only[sA])|(refine qZb ?_;simp (config:=qZc) (disch:=first|omega|rfl) only[sB,Za,Zb,one,reduceCtorEq,Zn,ld3,zbn,st4,z5o,st3,zbm,ld60,cl49,z0c,z0j,bEqP,hg2,hle2,e3,l23,gd3,e4,lp1,List.map_toArray])|(refine qZj (id:=3) [([(0,0),(1,0),(2,0),(3,0),(4,0),(5,0),(6,0),(7,0),(8,0),(9,0),(10,0),(11,0),(12,0),(13,0),(14,0),(15,0),(16,0),(17,0),(18,0),(19,0),(20,0),(21,0),(22,0)],none)] ?_ ?_;kernel_rfl;simp (config:=qZc) (disch:=first|omega|rfl) only[sD,sB,Za,Zb,reduceCtorEq,ld3,z4n,zdg,zkz,zo2,zbn,ld4,z0c,z0j,l1',qi,d1,d2,lth,Zq,Ze,isAlloc,isRead])|(refine qZj (id:=5) [([(0,0),(1,0),(2,0),(3,0),(4,0),(5,0),(6,0)],none)] ?_ ?_;kernel_rfl;simp (config:=qZc) (disch:=first|omega|rfl) only[sD,sB,Za,Zb,reduceCtorEq,ld3,z4n,zdg,zo2,z0c,z0j,e2,l12,qi2,isAlloc,isRead])|(refine qZj (id:=8) [([(0,0),(1,0),(2,0),(3,0),(4,0),(5,0),(6,0),(7,0),(8,0),(9,0)],none)] ?_ ?_;kernel_rfl;simp (config:=qZc) (disch:=first|omega|rfl) only[sD,sB,Za,Zb,reduceCtorEq,z3d,z8t,zl1,zky,z0c,z0j,l35,lpl5,z0m,el5,e5,isAlloc,isRead])|(refine qZm ?_ ?_;simp (config:=qZc) (disch:=first|omega|rfl) only[sB,Za,reduceCtorEq];refine z05 ?_))
 refine(zn7 o' hm hnd g15 hne w5).mono ?_;rintro v H6 ⟨rfl,o6,hk6⟩;have hpb':p.blk≠b':=fun e=>hps.off 1 _ rfl (by rw[e];rfl)
 have gp6:=hk6.get w5 hps.obj hpb';obtain⟨H7,e7,h7,dx7,w7,n7⟩:=h5.setIds w5 (i:=j) (p:=p) hp (fun j' q hj' hq=>by subst hq;exact w.one hp hj' rfl) hps hk6.wf hk6.next (fun n hn hne=>hk6.keep n hn fun e=>hne (by rw[e];rfl)) (l:=p.ids.erase i) (v':=.slice (some ⟨b',0,none⟩) (p.ids.erase i).length pc) (.inr ⟨b',pc,o6,by rw[z16]⟩) (fun n hn=>.inl hn) rfl
 repeat' (first|refine qZa ?_|(refine qZf ?_)|(refine qZb ?_;simp (config:=qZc) (disch:=first|omega|rfl) only[sA])|(refine z0n ?_;simp (config:=qZc) (disch:=first|omega|rfl) only[sB,Zb,one,st60,gp6,e7]))
 exact z04 rfl (by simp only[sG,Za,reduceCtorEq]) ⟨rfl,h7,(((dx2.trans dx3).trans dx4).trans dx5).trans dx7,w7⟩
end
end Go.Proofs.hq
end

section
namespace Go.Proofs.hq
open Go Go.RowKit Go.Hb
def Grew (D D':Db):Prop:=D.lines.length<=D'.lines.length/\∀(i:Nat) (x:Ln),D.lines[i]?=some x->∃x',D'.lines[i]?=some x'/\x'.c=x.c
theorem Grew.refl {D:Db}:Grew D D:=⟨Zf _,fun _ x h=>⟨x,h,rfl⟩⟩
theorem Grew.trans {D D1 D2:Db}(h:Grew D D1) (k:Grew D1 D2):Grew D D2:=⟨Zk h.1 k.1,fun i x hx=>by
 obtain⟨x1,h1,e1⟩:=h.2 i x hx;obtain⟨x2,h2,e2⟩:=k.2 i x1 h1;exact⟨x2,h2,e2.trans e1⟩⟩
section
variable {D:Db}{i j:Nat}{x:Ln}{p:Prc}
theorem Grew.gone (hx:D.lines[i]?=some x):Grew D (D.gone i j x p):=⟨by simp [Db.gone],fun k y hy=>by
 simp only[Db.gone,ZD];by_cases h:i=k
 ·subst h;rw[hx] at hy;cases hy;rw[if_pos rfl,if_pos (List.getElem?_eq_some_iff.1 hx).1];exact⟨_,rfl,rfl⟩
 ·rw[if_neg h];exact⟨y,hy,rfl⟩⟩
theorem DbW.gone (w:DbW D) (hx:D.lines[i]?=some x) (hk:p.key=x.key) (hp:D.procs[j]?=some p) (hm:i∈p.ids):DbW (D.gone i j x p):=by
 have hjl:=(List.getElem?_eq_some_iff.1 hp).1;have hil:=(List.getElem?_eq_some_iff.1 hx).1;have hpm:p∈D.procs:=Zr hp;have hnd:=(w.ids p hpm).1;have hkeys:(D.procs.set j { p with ids:=p.ids.erase i }).map (·.key)=D.procs.map (·.key):=by
  rw[List.map_set];exact z31 (by rw[Zv,hp];rfl)
 have hset:∀q∈D.procs.set j { p with ids:=p.ids.erase i },q={ p with ids:=p.ids.erase i }\/(q∈D.procs/\q.key≠p.key):=fun q hq=>by
  obtain⟨n,hn,rfl⟩:=ZK hq;rw[List.length_set] at hn;rw[List.getElem_set];split
  ·exact .inl rfl
  ·rename_i hne;exact .inr ⟨Zz hn,fun e=>hne (w.one hp (Zc hn) e).symm⟩
 have hput:∀q∈D.procs,q.key≠p.key->q∈D.procs.set j { p with ids:=p.ids.erase i }:=fun q hq hne=>by
  obtain⟨n,hn,rfl⟩:=ZK hq;have hnj:j≠n:=fun e=>hne (by subst e;rw[Zc hn] at hp;cases hp;rfl)
  have:(D.procs.set j { p with ids:=p.ids.erase i })[n]?=some D.procs[n]:=by rw[ZD,if_neg hnj,Zc hn]
  exact Zr this
 have hpj:{ p with ids:=p.ids.erase i }∈D.procs.set j { p with ids:=p.ids.erase i }:=by
  have:(D.procs.set j { p with ids:=p.ids.erase i })[j]?=some { p with ids:=p.ids.erase i }:=by rw[ZD,if_pos rfl,if_pos hjl]
  exact Zr this
 have hln:∀(n:Nat) (y:Ln),n≠i->((D.lines.set i { x with there:=false })[n]?=some y↔D.lines[n]?=some y):=fun n y hn=>by
  rw[ZD,if_neg (fun e=>hn e.symm)]
 refine⟨?_,fun q hq=>?_,fun n y hy ht=>?_,fun y hy=>?_⟩
 ·show ((D.procs.set j { p with ids:=p.ids.erase i }).map (·.key)).Nodup;rw[hkeys];exact w.nd
 ·rcases hset q hq with rfl|⟨hq2,hne⟩
  ·refine⟨hnd.erase i,fun n hn=>?_⟩;obtain⟨hni,hn2⟩:=(List.Nodup.mem_erase_iff hnd).1 hn;obtain⟨y,h1,h2,h3⟩:=(w.ids p hpm).2 n hn2;exact⟨y,(hln n y hni).2 h1,h2,h3⟩
  ·refine⟨(w.ids q hq2).1,fun n hn=>?_⟩;obtain⟨y,h1,h2,h3⟩:=(w.ids q hq2).2 n hn;have hni:n≠i:=fun e=>by subst e;rw[hx] at h1;cases h1;exact hne (h2.symm.trans hk.symm)
   exact⟨y,(hln n y hni).2 h1,h2,h3⟩
 ·by_cases hni:n=i
  ·subst hni;have:(D.lines.set n { x with there:=false })[n]?=some y:=hy;rw[ZD,if_pos rfl,if_pos hil] at this;cases this;cases ht
  ·have hy':=(hln n y hni).1 hy;obtain⟨q,hq,h1,h2⟩:=w.th n y hy' ht;by_cases hqk:q.key=p.key
   ·obtain⟨n',hn',rfl⟩:=ZK hq;have:=w.one hp (Zc hn') hqk;subst this;rw[Zc hn'] at hp;cases hp;exact⟨_,hpj,h1,(List.Nodup.mem_erase_iff hnd).2 ⟨hni,h2⟩⟩
   ·exact⟨q,hput q hq hqk,h1,h2⟩
 ·have hy:y∈D.lines.set i { x with there:=false }:=hy;rcases List.mem_or_eq_of_mem_set hy with h1|h1
  ·exact w.good y h1
  ·rw[h1];exact w.good x (Zr hx)
def Db.drop (D:Db) (j:Nat):Db:={ D with procs:=D.procs.eraseIdx j }
theorem Grew.drop:Grew D (D.drop j):=⟨Zf _,fun _ x h=>⟨x,h,rfl⟩⟩
theorem DbW.drop (w:DbW D) (hp:D.procs[j]?=some p) (he:p.ids=[]):DbW (D.drop j):=by
 have hsub:∀q∈D.procs.eraseIdx j,q∈D.procs:=fun q hq=>List.mem_of_mem_eraseIdx hq
 refine⟨?_,fun q hq=>w.ids q (hsub q hq),fun n y hy ht=>?_,w.good⟩
 ·show ((D.procs.eraseIdx j).map (·.key)).Nodup;rw[z1g];exact w.nd.sublist (List.eraseIdx_sublist _ _)
 ·obtain⟨q,hq,h1,h2⟩:=w.th n y hy ht;refine⟨q,?_,h1,h2⟩;obtain⟨k,hk,rfl⟩:=ZK hq;have hne:k≠j:=fun e=>by
   subst e;rw[Zc hk] at hp;cases hp;rw[he] at h2;cases h2
  refine List.mem_eraseIdx_iff_getElem.2 ⟨k,hk,hne,rfl⟩
def Db.put (D:Db) (j:Nat) (p:Prc) (c:Cls) (last:Bool):Db:={ lines:=D.lines++[⟨p.key,c,true⟩],procs:=D.procs.set j { p with ids:=if last then p.ids++[D.lines.length] else D.lines.length :: p.ids },n:=IntKind.i64.wrap (D.n+1) }
theorem Grew.put {c:Cls}{last:Bool}:Grew D (D.put j p c last):=⟨by simp [Db.put],fun k y hy=>⟨y,by simp only[Db.put];rw[ZC (List.getElem?_eq_some_iff.1 hy).1];exact hy,rfl⟩⟩
theorem DbW.put (w:DbW D) {c:Cls}{last:Bool}(hp:D.procs[j]?=some p) (hc:GoodC c):DbW (D.put j p c last):=by
 have hjl:=(List.getElem?_eq_some_iff.1 hp).1;have hpm:p∈D.procs:=Zr hp;generalize hL:(if last then p.ids++[D.lines.length] else D.lines.length :: p.ids)=L;have hLm:∀n,n∈L↔n∈p.ids\/n=D.lines.length:=fun n=>by rw[<-hL];cases last<;>simp [or_comm]
 have hlt:∀q∈D.procs,∀n∈q.ids,n < D.lines.length:=fun q hq n hn=>by
  obtain⟨y,h1,-⟩:=(w.ids q hq).2 n hn;exact(List.getElem?_eq_some_iff.1 h1).1
 have hLn:L.Nodup:=by
  have hnd:=(w.ids p hpm).1;have hnot:D.lines.length∉p.ids:=fun q=>by have:=hlt p hpm _ q;omega
  rw[<-hL];cases last
  ·simp only[Ze,if_false];exact List.nodup_cons.2 ⟨hnot,hnd⟩
  ·simp only[if_true];refine List.nodup_append.2 ⟨hnd,by simp,fun a ha b hb=>?_⟩;rw[List.mem_singleton.1 hb];intro e;exact hnot (e ▸ ha)
 have hkeys:(D.procs.set j { p with ids:=L }).map (·.key)=D.procs.map (·.key):=by
  rw[List.map_set];exact z31 (by rw[Zv,hp];rfl)
 have hset:∀q∈D.procs.set j { p with ids:=L },q={ p with ids:=L }\/q∈D.procs:=fun q hq=>(List.mem_or_eq_of_mem_set hq).symm
 have hpj:{ p with ids:=L }∈D.procs.set j { p with ids:=L }:=by
  have:(D.procs.set j { p with ids:=L })[j]?=some { p with ids:=L }:=by rw[ZD,if_pos rfl,if_pos hjl]
  exact Zr this
 have hput:∀q∈D.procs,q.key≠p.key->q∈D.procs.set j { p with ids:=L }:=fun q hq hne=>by
  obtain⟨n,hn,rfl⟩:=ZK hq;have hnj:j≠n:=fun e=>hne (by subst e;rw[Zc hn] at hp;cases hp;rfl)
  have:(D.procs.set j { p with ids:=L })[n]?=some D.procs[n]:=by rw[ZD,if_neg hnj,Zc hn]
  exact Zr this
 have hold:∀(n:Nat) (y:Ln),D.lines[n]?=some y->(D.lines++[(⟨p.key,c,true⟩:Ln)])[n]?=some y:=fun n y hy=>by
  rw[ZC (List.getElem?_eq_some_iff.1 hy).1];exact hy
 unfold Db.put;rw[hL];refine⟨?_,fun q hq=>?_,fun n y hy ht=>?_,fun y hy=>?_⟩
 ·show ((D.procs.set j { p with ids:=L }).map (·.key)).Nodup;rw[hkeys];exact w.nd
 ·rcases hset q hq with rfl|hq2
  ·refine⟨hLn,fun n hn=>?_⟩;rcases (hLm n).1 hn with hn|rfl
   ·obtain⟨y,h1,h2,h3⟩:=(w.ids p hpm).2 n hn;exact⟨y,hold n y h1,h2,h3⟩
   ·exact⟨⟨p.key,c,true⟩,by simp,rfl,rfl⟩
  ·refine⟨(w.ids q hq2).1,fun n hn=>?_⟩;obtain⟨y,h1,h2,h3⟩:=(w.ids q hq2).2 n hn;exact⟨y,hold n y h1,h2,h3⟩
 ·by_cases hn:n < D.lines.length
  ·have hy':D.lines[n]?=some y:=by
    have h0:(D.lines++[(⟨p.key,c,true⟩:Ln)])[n]?=some y:=hy
    rwa [ZC hn] at h0
   obtain⟨q,hq,h1,h2⟩:=w.th n y hy' ht;by_cases hqk:q.key=p.key
   ·obtain⟨n',hn',rfl⟩:=ZK hq;have:=w.one hp (Zc hn') hqk;subst this;rw[Zc hn'] at hp;cases hp;exact⟨_,hpj,h1,(hLm n).2 (.inl h2)⟩
   ·exact⟨q,hput q hq hqk,h1,h2⟩
  ·have h0:(D.lines++[(⟨p.key,c,true⟩:Ln)])[n]?=some y:=hy;have hnl:=(List.getElem?_eq_some_iff.1 h0).1;simp only[Zy,List.length_singleton] at hnl;have hne:n=D.lines.length:=by omega
   subst hne;simp at h0;subst h0;exact⟨_,hpj,rfl,(hLm _).2 (.inr rfl)⟩
 ·have hy:y∈D.lines++[(⟨p.key,c,true⟩:Ln)]:=hy;rcases List.mem_append.1 hy with h1|h1
  ·exact w.good y h1
  ·rw[List.mem_singleton.1 h1];exact hc
def Db.newP (D:Db) (k:PK) (b:Nat):Db:={ D with procs:=D.procs++[⟨k,b,[]⟩] }
theorem Grew.newP {k:PK}{b:Nat}:Grew D (D.newP k b):=⟨Zf _,fun _ x h=>⟨x,h,rfl⟩⟩
theorem DbW.newP (w:DbW D) {k:PK}{b:Nat}(hk:D.idx k=none):DbW (D.newP k b):=by
 refine⟨?_,fun q hq=>?_,fun n y hy ht=>?_,w.good⟩
 ·show ((D.procs++[(⟨k,b,[]⟩:Prc)]).map (·.key)).Nodup;rw[ZB];refine List.nodup_append.2 ⟨w.nd,by simp,fun a ha c hc=>?_⟩;simp only[Zx,List.map_nil,List.mem_singleton] at hc;subst hc;obtain⟨q,hq,rfl⟩:=List.mem_map.1 ha;exact Db.idx_none hk q hq
 ·have hq:q∈D.procs++[(⟨k,b,[]⟩:Prc)]:=hq;rcases List.mem_append.1 hq with h1|h1
  ·exact w.ids q h1
  ·rw[List.mem_singleton.1 h1];exact⟨List.nodup_nil,fun n hn=>by cases hn⟩
 ·obtain⟨q,hq,h1,h2⟩:=w.th n y hy ht;exact⟨q,List.mem_append_left _ hq,h1,h2⟩
theorem zpb {k:PK}{b:Nat}(hk:D.idx k=none):(D.newP k b).idx k=some D.procs.length/\(D.newP k b).procs[D.procs.length]?=some ⟨k,b,[]⟩:=by
 refine⟨?_,by simp [Db.newP]⟩;unfold Db.idx at hk ⊢;simp only[Db.newP,ZB,Zx,List.map_nil];rw[List.findIdx?_append,hk];simp [zfs.2 rfl]
end
end Go.Proofs.hq
end

section
namespace Go.Proofs.hq
open Go Go.RowKit Go.Hb
variable {ok:Ok}
set_option maxRecDepth 10000
attribute [local irreducible] LX LG EL STG SOP SGO SGD SAL SRD SEF SEG SLK SCK ES
section
variable {H:Heap}{B d:Nat}{D:Db}
set_option maxHeartbeats 4000000 in
theorem zsy {k:PK}(hk:k.1.size<=maxLen) (hw:H.wf):EvF Tryd.prog okT 86 [kkv k] H fun v H'=>(∃m:Bool,v=.bool m)/\HX H H':=by
 refine EvF.enter rfl Tryd.func86 (by decide) rfl ?_;(repeat refine qZa ?_);refine qZb ?_;simp (config:=qZc) (disch:=first|omega|rfl) only[sB,initTm,dBox,Value.cells,one];obtain⟨H1,e1,hx1,g1,n1,w1⟩:=new1 hw (.row [.string k.1,.int .i64 k.2] 47);simp only[e1];clear e1;have q1:=z6r g1;(repeat refine qZa ?_);refine qZb ?_;simp (config:=qZc) (disch:=first|omega|rfl) only[sB,Za,reduceCtorEq,ztr,ld9,cl44,q1];refine(z9o hk w1).mono ?_;rintro v H2 ⟨rfl,hx2⟩;have q2:=z6r (hx2.get w1 g1);cases namedB k.1 with
 |false =>
  repeat' (first|(refine qZf ?_)|(refine zkk ?_;simp (config:=qZc) (disch:=first|omega|rfl) only[sB,Za,reduceCtorEq,Ze]))
  exact z04 rfl (by simp only[sB,Za,reduceCtorEq];rfl) ⟨⟨_,rfl⟩,hx1.trans hx2⟩
 |true =>
  by_cases h0:k.2 >= 0
  ·repeat' (first|(refine qZf ?_)|(refine zkk ?_;simp (config:=qZc) (disch:=first|omega|rfl) only[sB,Za,reduceCtorEq,zqg,ld3,q2,decide_eq_true h0]))
   exact z04 rfl (by simp only[sB,Za,reduceCtorEq];rfl) ⟨⟨_,rfl⟩,hx1.trans hx2⟩
  ·repeat' (first|(refine qZf ?_)|(refine zkk ?_;simp (config:=qZc) (disch:=first|omega|rfl) only[sB,Za,reduceCtorEq,zqg,ld3,q2,decide_eq_false h0,Ze]))
   exact z04 rfl (by simp only[sB,Za,reduceCtorEq];rfl) ⟨⟨_,rfl⟩,hx1.trans hx2⟩
theorem zuy {r:Nat}(hm:MapK kkv H r fixP) (k:PK):∃x:Int,∀n:Nat,dLk Tryd.prog 71 (.map (some r)) (kkv k) false ⟨n,H.t⟩=some (.val (.int .i64 x) ⟨n,H.t⟩):=by
 cases hi:kIdx eqK fixP k with
 |none =>
  refine⟨0,fun n=>?_⟩;have hz:pureRun Tryd.prog (zeroValue 3)=some (.int .i64 0):=by kernel_rfl
  have e:=zej (ok:=false) zsw Tryd.underlying71 hz rfl (hm.heap (H':=⟨n,H.t⟩) rfl) hi;simp only[Ze,if_false] at e;exact e
 |some i =>
  refine⟨1,fun n=>?_⟩;obtain⟨hil,-,-⟩:=List.findIdx?_eq_some_iff_getElem.1 hi;rw[Zt] at hil;have hv:fixP[i]?=some (fixP[i].1,.int .i64 1):=by
   rw[Zc hil];have:∀y∈fixP,y=(y.1,.int .i64 1):=fun y hy=>by
    unfold fixP at hy;obtain⟨z,-,rfl⟩:=List.mem_map.1 hy;rfl
   rw[<-this _ (Zz hil)]
  have e:=zei (ok:=false) zsw Tryd.underlying71 (hm.heap (H':=⟨n,H.t⟩) rfl) hi hv;simp only[Ze,if_false] at e;exact e
theorem zaz:namedB sUser=true:=by
 have h:utfS sUser=true:=by kernel_rfl
 unfold namedB;rw[h];rfl
theorem zi7:sUser.size<=maxLen:=by unfold maxLen;decide
set_option maxHeartbeats 8000000 in
theorem zjq (h:DbB H B d D) (hw:H.wf) {k:PK}(hk:k.1.size<=maxLen):EvF Tryd.prog okT 51 [ptr d,.string sUser,kkv k] H fun v H'=>(∃e:Int,v=.int .i64 e)/\HX H H':=by
 refine EvF.enter rfl Tryd.func51 (by decide) rfl ?_;(repeat refine qZa ?_);refine qZb ?_;simp (config:=qZc) (disch:=first|omega|rfl) only[sB,initTm,dBox,Za,Zb,Value.cells,one,reduceCtorEq];obtain⟨H1,e1,hx1,g1,n1,w1⟩:=new1 hw (.row [.string k.1,.int .i64 k.2] 47);simp only[e1];clear e1;have q1:=z6r g1
 repeat' (first|refine qZa ?_|refine qZg ?_|(refine qZb ?_;simp (config:=qZc) (disch:=first|omega|rfl) only[sB,Za,reduceCtorEq,cl44,bEqP])|(refine qZm ?_ ?_;simp (config:=qZc) (disch:=first|omega|rfl) only[sB,Za,reduceCtorEq];refine z05 ?_))
 refine(z9o zi7 w1).mono ?_;rintro v H2 ⟨rfl,hx2⟩;have w2:=hx2.wf;have g2:=hx2.get w1 g1;have q2:=z6r g2;rw[zaz];(try simp (config:=qZc) (disch:=first|omega|rfl) only[sB,Za,reduceCtorEq,ld47,cl86,Zq,q2]);refine(zsy (k:=k) hk w2).mono ?_;rintro v H3 ⟨⟨m,rfl⟩,hx3⟩;have w3:=hx3.wf;have g3:=hx3.get w2 g2;have q3:=z6r g3;have hx13:=(hx1.trans hx2).trans hx3;cases m with
 |false =>
  repeat' (first|refine qZa ?_|(refine qZf ?_;try simp only[z06,z01])|(refine qZb ?_;simp (config:=qZc) (disch:=first|omega|rfl) only[sA])|(refine z0n ?_;simp (config:=qZc) (disch:=first|omega|rfl) only[sB,Za,reduceCtorEq,ZH])|(refine qZd ?_ ?_;simp (config:=qZc) (disch:=first|omega|rfl) only[sB,Za,reduceCtorEq];refine z05 ?_))
  exact z04 rfl (by simp only[sB,Za,reduceCtorEq];rfl) ⟨⟨_,rfl⟩,hx13⟩
 |true =>
 obtain⟨h3,dx3⟩:=h.keep hw hx13;obtain⟨r0,a1,c1,r3,r4,r5,r6,cells,hs,hl,l0,l1,l2,l3,q1',q2',m0,m3⟩:=h3.open;obtain⟨x,el⟩:=zuy m0 k;by_cases hx0:x=0
 ·repeat' (first|refine qZa ?_|(refine qZb ?_;simp (config:=qZc) (disch:=first|omega|rfl) only[sB,Za,reduceCtorEq,ld47,cl70,q3,z3c])|(refine qZj [([(0,0),(1,0),(2,0),(3,0),(4,0),(5,0),(6,0),(7,0)],none)] ?_ ?_;kernel_rfl;simp (config:=qZc) (disch:=first|omega|rfl) only[sD,sB,Za,Zb,reduceCtorEq,ld47,zbk,ld71,z0c,z0j,l0,q3,z0m,el,z0x hx0,isAlloc,isRead])|(refine z0n ?_;simp (config:=qZc) (disch:=first|omega|rfl) only[sB,Za,reduceCtorEq,Zq,Ze])|(refine qZm ?_ ?_;simp (config:=qZc) (disch:=first|omega|rfl) only[sB,Za,reduceCtorEq];refine z05 ?_))
  have hb:=(HX.refl w3).bump 8;obtain⟨h4,dx4⟩:=h3.keep w3 hb;refine(zsx h4 hb.wf (k:=k)).mono ?_;rintro v H4 ⟨rfl,hx4⟩;have hne:¬((if (D.idx k).isSome then (2:Int) else 0)=1):=by split<;>omega
  repeat' (first|refine qZa ?_|(refine qZe ?_;try simp only[sA])|(refine qZf ?_)|(refine qZb ?_;simp (config:=qZc) (disch:=first|omega|rfl) only[sA])|(refine z0n ?_;simp (config:=qZc) (disch:=first|omega|rfl) only[sB,Za,reduceCtorEq,z0t hne])|(refine qZm ?_ ?_;simp (config:=qZc) (disch:=first|omega|rfl) only[sB,Za,reduceCtorEq];refine z05 ?_))
  exact z04 rfl (by simp only[sB,Za,reduceCtorEq];rfl) ⟨⟨_,rfl⟩,(hx13.trans hb).trans hx4⟩
 ·repeat' (first|refine qZa ?_|(refine qZf ?_;try simp only[z06,z01])|(refine qZb ?_;simp (config:=qZc) (disch:=first|omega|rfl) only[sA])|(refine qZj [([(0,0),(1,0),(2,0),(3,0),(4,0),(5,0),(6,0),(7,0)],none)] ?_ ?_;kernel_rfl;simp (config:=qZc) (disch:=first|omega|rfl) only[sD,sB,Za,Zb,reduceCtorEq,ld47,zbk,ld71,z0c,z0j,l0,q3,z0m,el,z1y hx0,isAlloc,isRead])|(refine z0n ?_;simp (config:=qZc) (disch:=first|omega|rfl) only[sB,Za,reduceCtorEq,Zq,Ze])|(refine qZd ?_ ?_;simp (config:=qZc) (disch:=first|omega|rfl) only[sB,Za,reduceCtorEq];refine z05 ?_)|(refine qZm ?_ ?_;simp (config:=qZc) (disch:=first|omega|rfl) only[sB,Za,reduceCtorEq];refine z05 ?_))
  exact z04 rfl (by simp only[sB,Za,reduceCtorEq];rfl) ⟨⟨_,rfl⟩,hx13.bump 8⟩
set_option maxHeartbeats 8000000 in
theorem zn8 (h:DbB H B d D) (hw:H.wf) {n:Int}(hn:∀(i:Nat) (x:Ln),n=(i:Nat)->D.lines[i]?=some x->x.there=false) :
  EvF Tryd.prog okT 22 [ptr d,.int .i64 n] H fun v H'=>HX H H':=by
 obtain⟨r0,a1,c1,r3,r4,r5,r6,cells,hs,hl,l0,l1,l2,l3,q1,q2,m0,m3⟩:=h.open;refine EvF.enter rfl Tryd.func22 (by decide) rfl ?_;(repeat refine qZa ?_);refine qZb ?_;simp (config:=qZc) (disch:=first|omega|rfl) only[sB,initTm,dBox,Value.cells,one,reduceCtorEq];obtain⟨H1,e1,hx1,g1,n1,w1⟩:=new1 hw (.row [.int .i64 n] 3);simp only[e1];clear e1;have l1':=hx1.load hw l1;have qi:=zn1 g1;by_cases h1:n < 0
 ·repeat' (first|refine qZa ?_|refine qZg ?_|(refine qZf ?_;try simp only[z06,z01])|(refine qZb ?_;simp (config:=qZc) (disch:=first|omega|rfl) only[sB,Za,reduceCtorEq,bEqP])|(refine qZj (id:=3) [([(0,0),(1,0),(2,0),(3,0),(4,0),(5,0),(6,0),(7,0),(8,0),(9,0),(10,0),(11,0),(12,0),(13,0),(14,0),(15,0),(16,0),(17,0),(18,0),(19,0),(20,0),(21,0),(22,0)],none)] ?_ ?_;kernel_rfl;simp (config:=qZc) (disch:=first|omega|rfl) only[sD,sB,Za,Zb,reduceCtorEq,ld3,qi,decide_eq_true h1,isAlloc,isRead])|(refine qZd ?_ ?_;simp (config:=qZc) (disch:=first|omega|rfl) only[sB,Za,reduceCtorEq];refine z05 ?_)|(refine qZm ?_ ?_;simp (config:=qZc) (disch:=first|omega|rfl) only[sB,Za,reduceCtorEq];refine z05 ?_))
  exact z04 rfl (by simp only[sB,Za,reduceCtorEq];rfl) (hx1.bump 23)
 by_cases h2:n >= (D.lines.length:Int)
 ·repeat' (first|refine qZa ?_|refine qZg ?_|(refine qZf ?_;try simp only[z06,z01])|(refine qZb ?_;simp (config:=qZc) (disch:=first|omega|rfl) only[sB,Za,reduceCtorEq,bEqP])|(refine qZj (id:=3) [([(0,0),(1,0),(2,0),(3,0),(4,0),(5,0),(6,0),(7,0),(8,0),(9,0),(10,0),(11,0),(12,0),(13,0),(14,0),(15,0),(16,0),(17,0),(18,0),(19,0),(20,0),(21,0),(22,0)],none)] ?_ ?_;kernel_rfl;simp (config:=qZc) (disch:=first|omega|rfl) only[sD,sB,Za,Zb,reduceCtorEq,ld3,z4n,zdg,zkz,z0c,z0j,l1',qi,decide_eq_false h1,decide_eq_true h2,Ze,isAlloc,isRead])|(refine qZd ?_ ?_;simp (config:=qZc) (disch:=first|omega|rfl) only[sB,Za,reduceCtorEq];refine z05 ?_)|(refine qZm ?_ ?_;simp (config:=qZc) (disch:=first|omega|rfl) only[sB,Za,reduceCtorEq];refine z05 ?_))
  exact z04 rfl (by simp only[sB,Za,reduceCtorEq];rfl) (hx1.bump 23)
 obtain⟨i,rfl⟩:∃i:Nat,n=i:=⟨n.toNat,by omega⟩
 have hi:i < D.lines.length:=by omega
 have hx:D.lines[i]?=some D.lines[i]:=Zc hi;obtain⟨b,ha,hc,ta,tc,a,k,rfl,o,hcell,ld,hrep⟩:=h.line hs hl hx;have lth:H1.load ⟨b,i*19+18,none⟩ 1=some [.bool false]:=by
  have:=hx1.load hw (o.part (i:=i) (j:=18) (n:=1) hcell (by omega));rw[<-hn i _ rfl hx];exact this
 repeat' (first|refine qZa ?_|refine qZg ?_|(refine qZf ?_;try simp only[z06,z01])|(refine qZb ?_;simp (config:=qZc) (disch:=first|omega|rfl) only[sB,Za,reduceCtorEq,bEqP])|(refine qZj (id:=3) [([(0,0),(1,0),(2,0),(3,0),(4,0),(5,0),(6,0),(7,0),(8,0),(9,0),(10,0),(11,0),(12,0),(13,0),(14,0),(15,0),(16,0),(17,0),(18,0),(19,0),(20,0),(21,0),(22,0)],none)] ?_ ?_;kernel_rfl;simp (config:=qZc) (disch:=first|omega|rfl) only[sD,sB,Za,Zb,reduceCtorEq,ld3,z4n,zdg,zkz,zo2,zbn,ld4,z0c,z0j,l1',qi,decide_eq_false h1,decide_eq_false h2,lth,ZH,Ze,isAlloc,isRead])|(refine qZd ?_ ?_;simp (config:=qZc) (disch:=first|omega|rfl) only[sB,Za,reduceCtorEq];refine z05 ?_)|(refine qZm ?_ ?_;simp (config:=qZc) (disch:=first|omega|rfl) only[sB,Za,reduceCtorEq];refine z05 ?_))
 exact z04 rfl (by simp only[sB,Za,reduceCtorEq];rfl) (hx1.bump 23)
end
section
variable {H:Heap}{B d:Nat}{D:Db}
theorem HK.one {H:Heap}(hw:H.wf) {r:Nat}(hr:r < H.next) (Bm:Option Blk):HK (·=r) H (H.put r Bm):=(HK.refl (S:=(·=r)) hw).put (.inl rfl) hr Bm
theorem zr4 {H2:Heap}{r:Nat}{M:List (PK × Value)}(hm:MapK pkv H2 r M) (hB:B<=r) (hr:r < H2.next) {L:List (Value × Value)}(hL:M.map (fun p=>(pkv p.1,p.2))=L):FR H2 B (.mp L) (.map (some r)):=by
 obtain⟨es,c,g,e⟩:=hm;exact⟨r,es,c,rfl,hB,hr,g,e.trans hL⟩
theorem DbB.dropP (h:DbB H B d D) (hw:H.wf) {cells:List (List Value)}{v0 v1 v2 v4 v5 v6:Value}{r3 j:Nat}(hs:StR H B d 110 (dFlds D cells) [v0,v1,v2,.map (some r3),v4,v5,v6]) (hl:LnsR H (Off H d D) D.lines cells) {Bm:Blk}(hm:MapK pkv (H.put r3 (some Bm)) r3 ((procK D).eraseIdx j)) :
  ∃H2,H.put r3 (some Bm)=H2/\DbB H2 B d (D.drop j)/\DX H H2 d D (D.drop j)/\H2.wf/\H2.next=H.next:=by
 obtain⟨f,-,hf⟩:=hs.has (i:=3) (v:=.map (some r3)) rfl;have hlo:=hf.lo (n:=r3) rfl;have hk:=HK.one hw hlo.2 (some Bm);obtain⟨hs2,sx⟩:=hs.alter hw (H2:=H.put r3 (some Bm)) hk.wf hk.next (i:=3) (v:=.map (some r3)) rfl (fun n hn hne=>hk.keep n hn fun e=>hne (by rw[e];rfl)) (f':=.mp (procM (D.procs.eraseIdx j)))
  (zr4 hm hlo.1 (Zh hlo.2 hk.next) (by unfold procK procM;rw[z1g,z1g,List.map_map,<-z1g,<-z1g];rfl))
 have:=h.turn (D':=D.drop j) hw (cells':=cells) hs2 sx (fun p hp=>List.mem_of_mem_eraseIdx hp) fun S h1 h2=>hl.to fun n hn hl=>⟨sx.hk.keep n hl fun q=>hn.2 (.inl q),h1 n hn,Zh hl sx.next⟩
 exact⟨_,rfl,this.1,this.2,sx.wf,rfl⟩
theorem DbB.addP {H0:Heap}(h:DbB H B d D) (hw:H.wf) (hw0:H0.wf) (h0:DbB H0 B d D) (hx0:HX H0 H) {cells:List (List Value)}{v0 v1 v2 v4 v5 v6:Value}{r3 nb:Nat}{k:PK}(hs:StR H B d 110 (dFlds D cells) [v0,v1,v2,.map (some r3),v4,v5,v6]) (hl:LnsR H (fun n=>Off H d D n/\n < H0.next) D.lines cells)
  (hg:H.get nb=some (.row [.int .i64 2,.slice none 0 0] 118)) (hnb:H0.next<=nb) {Bm:Blk}(hm:MapK pkv (H.put r3 (some Bm)) r3 (procK D++[(k,ptr nb)])) :
  ∃H2,H.put r3 (some Bm)=H2/\DbB H2 B d (D.newP k nb)/\DX H0 H2 d D (D.newP k nb)/\H2.wf/\H2.next=H.next:=by
 obtain⟨f,-,hf⟩:=hs.has (i:=3) (v:=.map (some r3)) rfl;have hlo:=hf.lo (n:=r3) rfl;have hk:=HK.one hw hlo.2 (some Bm);have hnl:nb < H.next:=hw _ _ hg;have dx0:DX H0 H d D D:=(h0.keep hw0 hx0).2;have hB:B<=nb:=Zk (Zk (h0.lo (.inl (.inl rfl))) (Nat.le_of_lt (h0.lt hw0))) hnb;have hmut0:∀n,MutA H d D n->n < H0.next:=fun n q=>by
  have e:∀s,s < H0.next->∀n,Mut H s n↔Mut H0 s n:=fun s hs n=>Mut.same (hx0.keep s hs) n
  rcases q with q|⟨p,hp,q⟩
  ·exact h0.hi hw0 (.inl ((e d (h0.lt hw0) n).1 q))
  ·exact h0.hi hw0 (.inr ⟨p,hp,(e p.blk (h0.hi hw0 (.inr ⟨p,hp,.inl rfl⟩)) n).1 q⟩)
 have hr0:r3 < H0.next:=hmut0 _ (.inl (.inr ⟨_,_,hs.obj,.map (some r3),by simp,rfl⟩));obtain⟨hs2,sx⟩:=hs.alter hw (H2:=H.put r3 (some Bm)) hk.wf hk.next (i:=3) (v:=.map (some r3)) rfl (fun n hn hne=>hk.keep n hn fun e=>hne (by rw[e];rfl)) (f':=.mp (procM (D.newP k nb).procs))
  (zr4 hm hlo.1 (Zh hlo.2 hk.next) (by unfold procK procM Db.newP;simp only[ZB,List.map_map];rfl))
 have hgn:(H.put r3 (some Bm)).get nb=some (.row [.int .i64 2,.slice none 0 0] 118):=by rw[get_put,if_neg (by omega)];exact hg
 have hmn:∀n,Mut (H.put r3 (some Bm)) nb n->n=nb:=fun n q=>by
  rcases q with q|⟨V,T,hV,v,hv,hb⟩
  ·exact q
  ·rw[hgn] at hV;cases hV;simp only[List.mem_cons,List.not_mem_nil,or_false] at hv;rcases hv with rfl|rfl<;>cases hb
 have hpk:∀p∈D.procs,∀n,Mut H p.blk n->(H.put r3 (some Bm)).get n=H.get n:=fun p hp n hm'=>sx.hk.keep n (h.hi hw (.inr ⟨p,hp,hm'⟩)) fun q=>h.apart hp q hm'
 have hpm:∀p∈D.procs,∀n,Mut (H.put r3 (some Bm)) p.blk n↔Mut H p.blk n:=fun p hp n=>Mut.same (hpk p hp _ (.inl rfl)) n
 have hsN:StR (H.put r3 (some Bm)) B nb 118 (pFlds ⟨k,nb,[]⟩) [.int .i64 2,.slice none 0 0]:=by
  refine⟨hgn,hB,rfl,fun i f v h1 h2=>?_,fun i j v u n h1 h2 h3 h4=>?_,fun i v h1=>?_,rfl⟩
  ·match i,h1,h2 with
   |0,h1,h2=>cases h1;cases h2;exact⟨rfl,rfl⟩
   |1,h1,h2=>cases h1;cases h2;exact .inl ⟨rfl,rfl⟩
   |i+2,h1,h2=>simp [pFlds] at h1
  ·match i,h1 with
   |0,h1=>cases h1;cases h3
   |1,h1=>cases h1;cases h3
   |i+2,h1=>simp at h1
  ·match i,h1 with
   |0,h1=>cases h1;intro q;cases q
   |1,h1=>cases h1;intro q;cases q
   |i+2,h1=>simp at h1
 have hmem:∀p∈(D.newP k nb).procs,p∈D.procs\/p=⟨k,nb,[]⟩:=fun p hp=>by
  have hp:p∈D.procs++[(⟨k,nb,[]⟩:Prc)]:=hp;rcases List.mem_append.1 hp with q|q
  ·exact .inl q
  ·exact .inr (List.mem_singleton.1 q)
 have dx:DX H0 (H.put r3 (some Bm)) d D (D.newP k nb):=by
  refine⟨dx0.hk.step (sx.hk.sub (S':=MutA H d D) fun n _ q=>.inl q) fun n hn q=>?_,fun n q=>?_⟩
  ·rcases dx0.mt n q with e|e
   ·exact e
   ·omega
  ·rcases q with q|⟨p,hp,q⟩
   ·rcases sx.mt n q with e|e
    ·exact dx0.mt n (.inl e)
    ·exact .inr (Zk hx0.next e)
   ·rcases hmem p hp with hp2|rfl
    ·exact dx0.mt n (.inr ⟨p,hp2,(hpm p hp2 n).1 q⟩)
    ·rw[hmn n q];exact .inr hnb
 have hoff2:∀n,Off H d D n->n < H0.next->(H.put r3 (some Bm)).get n=H.get n/\Off (H.put r3 (some Bm)) d (D.newP k nb) n/\n < (H.put r3 (some Bm)).next:=fun n hn hl=>by
  have hn0:Off H0 d D n:=⟨hl,fun q=>hn.2 (by
   rcases q with q|⟨p,hp,q⟩
   ·exact .inl ((Mut.same (hx0.keep d (h0.lt hw0)) n).2 q)
   ·exact .inr ⟨p,hp,(Mut.same (hx0.keep p.blk (h0.hi hw0 (.inr ⟨p,hp,.inl rfl⟩))) n).2 q⟩)⟩
  exact⟨sx.hk.keep n hn.1 fun q=>hn.2 (.inl q),(dx.off hn0).2.1,(dx.off hn0).2.2⟩
 refine⟨_,rfl,⟨⟨_,cells,hs2,hl.to fun n hn _=>hoff2 n hn.1 hn.2⟩,fun p hp=>?_,fun p hp q hq hne n h1 h2=>?_⟩,dx,sx.wf,rfl⟩
 ·rcases hmem p hp with hp2|rfl
  ·obtain⟨v,ht⟩:=h.prc p hp2;exact⟨v,ht.beside (hpk p hp2) sx.next⟩
  ·exact⟨_,hsN⟩
 ·rcases hmem p hp with hp2|rfl
  ·rcases hmem q hq with hq2|rfl
   ·exact h.dis p hp2 q hq2 hne n ((hpm p hp2 n).1 h1) ((hpm q hq2 n).1 h2)
   ·have:=hmut0 n (.inr ⟨p,hp2,(hpm p hp2 n).1 h1⟩);rw[hmn n h2] at this;omega
  ·rcases hmem q hq with hq2|rfl
   ·have:=hmut0 n (.inr ⟨q,hq2,(hpm q hq2 n).1 h2⟩);rw[hmn n h1] at this;omega
   ·exact hne rfl
end
theorem zfu {H4 G:Heap}{e:TypeId}{s base:Nat}{L:List (List Value)}{v:Value}(h:RepO H4 e s base L v) (hk:∀n,base<=n->n < H4.next->G.get n=H4.get n) (hn:H4.next<=G.next):RepO G e s base L v:=by
 rcases h with h|⟨b,c,o,e⟩
 ·exact .inl h
 ·exact .inr ⟨b,c,o.heap (hk b o.lo o.hi) hn,e⟩
theorem zuz {H:Heap}{D:Db}{r:Nat}{k:PK}(hm:MapK pkv H r (procK D)) {j:Nat}(hi:D.idx k=some j):∃B,dDel Tryd.prog 104 (.map (some r)) (pkv k) H=some (.val undef (H.put r (some B)))/\MapK pkv (H.put r (some B)) r ((procK D).eraseIdx j) :=
 zur keyP Tryd.underlying104 hm (z4w.trans hi)
theorem zsz {H:Heap}{D:Db}{r:Nat}{k:PK}(hm:MapK pkv H r (procK D)) (hi:D.idx k=none):dDel Tryd.prog 104 (.map (some r)) (pkv k) H=some (.val undef H) :=
 zjn keyP Tryd.underlying104 hm (z4w.trans hi)
theorem zt0 {D:Db}{j:Nat}{p p':Prc}{k:PK}{l:List Ln}{n:Int}(hp:D.procs[j]?=some p) (hk:p'.key=p.key):Db.idx { lines:=l,procs:=D.procs.set j p',n:=n } k=D.idx k:=by
 unfold Db.idx;rw[List.map_set,hk,z31 (by rw[Zv,hp];rfl)]
theorem z9r:∀(n:Nat) (l:List Nat),l.Nodup->(∀x∈l,x < n)->l.length<=n
 |0,l,_,h=>by
  cases l with
  |nil=>exact Zf _
  |cons a l=>exact absurd (h a (by simp)) (Nat.not_lt_zero _)
 |n+1,l,hnd,h=>by
  by_cases hn:n∈l
  ·have:=z9r n (l.erase n) (hnd.erase n) fun x hx=>by
    obtain⟨h1,h2⟩:=(List.Nodup.mem_erase_iff hnd).1 hx;have:=h x h2;omega
   rw[List.length_erase_of_mem hn] at this;omega
  ·have:=z9r n l hnd fun x hx=>by
    have:=h x hx;have:x≠n:=fun e=>hn (e ▸ hx)
    omega
   omega
section
variable {H:Heap}{B d:Nat}{D:Db}
theorem DbB.mutx (h:DbB H B d D) (hw:H.wf) {H':Heap}(hx:HX H H') {n:Nat}(hm:MutA H' d D n):MutA H d D n:=by
 rcases hm with q|⟨p,hp,q⟩
 ·exact .inl ((Mut.same (hx.keep d (h.lt hw)) n).1 q)
 ·exact .inr ⟨p,hp,(Mut.same (hx.keep p.blk (h.hi hw (.inr ⟨p,hp,.inl rfl⟩))) n).1 q⟩
theorem DbW.idsl (w:DbW D) {p:Prc}(hp:p∈D.procs):p.ids.length<=D.lines.length:=by
 obtain⟨hnd,hin⟩:=w.ids p hp;exact z9r _ _ hnd fun i hi=>by obtain⟨x,hx,-⟩:=hin i hi;exact(List.getElem?_eq_some_iff.1 hx).1
theorem DbW.idl (w:DbW D) (k:PK):(D.ids k).length<=D.lines.length:=by
 cases hi:D.idx k with
 |none=>rw[Db.ids_none hi];exact Zo _
 |some j =>
  obtain⟨p,hp,-⟩:=Db.idx_some hi;rw[Db.ids_some hi hp];exact w.idsl (Zr hp)
set_option maxHeartbeats 16000000 in
theorem zjr (h:DbB H B d D) (w:DbW D) (hw:H.wf) {k:PK}(hk:k.1.size<=maxLen) (hm:D.lines.length<=most) :
  EvF Tryd.prog okT 23 [ptr d,.string sUser,kkv k] H fun v H'=>∃D',DbB H' B d D'/\DX H H' d D D'/\DbW D'/\Grew D D'/\D'.lines.length=D.lines.length/\H'.wf:=by
 refine EvF.enter rfl Tryd.func23 (by decide) rfl ?_;(repeat refine qZa ?_);refine qZb ?_;simp (config:=qZc) (disch:=first|omega|rfl) only[sB,initTm,dBox,Za,Zb,Value.cells,one,reduceCtorEq];obtain⟨H1,e1,hx1,g1,n1,w1⟩:=new1 hw (.row [.string k.1,.int .i64 k.2] 47);simp only[e1];clear e1;have q1:=z6r g1;obtain⟨h1,dx1⟩:=h.keep hw hx1
 repeat' (first|refine qZa ?_|(refine qZb ?_;simp (config:=qZc) (disch:=first|omega|rfl) only[sB,Za,reduceCtorEq,ld47,cl51,q1]))
 refine(zjq h1 w1 (k:=k) hk).mono ?_;rintro v H2 ⟨⟨e,rfl⟩,hx2⟩;have w2:=hx2.wf;have g2:=hx2.get w1 g1;have q2:=z6r g2;obtain⟨h2,dx2⟩:=h1.keep w1 hx2;by_cases he:e=0;rotate_left
 ·repeat' (first|refine qZa ?_|(refine qZf ?_;try simp only[z06,z01])|(refine qZb ?_;simp (config:=qZc) (disch:=first|omega|rfl) only[sB,Za,reduceCtorEq,z1y he])|(refine qZd ?_ ?_;simp (config:=qZc) (disch:=first|omega|rfl) only[sB,Za,reduceCtorEq];refine z05 ?_))
  exact z04 rfl (by simp only[sB,Za,reduceCtorEq];rfl) ⟨D,h2,dx1.trans dx2,w,Grew.refl,rfl,w2⟩
 have hids:(D.ids k).length<=most:=Zk (w.idl k) hm
 repeat' (first|refine qZa ?_|(refine qZe ?_;try simp only[z00])|(refine qZb ?_;simp (config:=qZc) (disch:=first|omega|rfl) only[sB,Za,reduceCtorEq,ld47,cl20,z0x he,q2])|(refine qZm ?_ ?_;simp (config:=qZc) (disch:=first|omega|rfl) only[sB,Za,reduceCtorEq];refine z05 ?_))
 refine(zr2 h2 w2 (k:=k) hids).mono ?_;rintro v H3 ⟨hx3,hv⟩;have w3:=hx3.wf;obtain⟨h3,dx3⟩:=h2.keep w2 hx3;have g3:=hx3.get w2 g2;have hb2:=(hx1.trans hx2).next;have nn2:=hx2.next;have nn3:=hx3.next;obtain⟨va,vc,rfl,hvl,hvc⟩:=hv.slice;rw[z16] at hvl hv ⊢;have hmx:vc<=9223372036854775807:=by unfold maxLen at hvc;exact hvc
 have hoff3:∀n,H.next<=n->n < H3.next->Off H3 d D n:=fun n h1' h2'=>⟨h2',fun q=>by
  have:=h.hi hw (h.mutx hw ((hx1.trans hx2).trans hx3) q);omega⟩
 repeat' (first|refine qZg ?_|(refine z0n ?_;simp (config:=qZc) (disch:=first|omega|rfl) only[sA,ln60]))
 refine qZk (fun k' st=>∃tm G q Dq,st=⟨tm,[],G⟩/\k'=(D.ids k).length - q/\q<=(D.ids k).length/\tm.get 0=some (ptr d)/\tm.get 1=some (.string sUser)/\tm.get 5=some (.pointer (some ⟨H.next,0,none⟩))/\tm.get 20=some (.slice va (D.ids k).length vc)/\tm.get 21=some (.int .i64 ((D.ids k).length:Nat))/\tm.get 22=some (.int .i64 (q:Nat)) /\
  DbB G B d Dq/\DX H3 G d D Dq/\DbW Dq/\Grew D Dq/\Dq.lines.length=D.lines.length/\G.wf/\Dq.ids k=(D.ids k).drop q) ?_ (D.ids k).length _ ?_
 rotate_left
 ·exact⟨_,_,0,D,rfl,rfl,Zo _,(by simp only[sG,reduceCtorEq]),(by simp only[sG,Za,reduceCtorEq]),(by simp only[sG,Za,reduceCtorEq]),(by simp only[sG,Za,reduceCtorEq]),(by simp only[sG,Za,reduceCtorEq]),(by simp only[sB,Za,reduceCtorEq];rfl),h3,⟨HK.refl w3,fun n q=>.inl q⟩,w,Grew.refl,rfl,w3,rfl⟩
 rintro k' st ⟨tm,G,q,Dq,rfl,rfl,hq,t0,t1,t5,t20,t21,t22,hG,dxG,wq,gq,hlq,wG,hidq⟩;have hgk:∀n,H.next<=n->n < H3.next->G.get n=H3.get n:=fun n a1 a2=>(dxG.off (hoff3 n a1 a2)).1
 have gG:G.get H.next=some (.row [.string k.1,.int .i64 k.2] 47):=(hgk _ (Zf _) (by omega)).trans g3;have dx03:=(dx1.trans dx2).trans dx3;by_cases hlt:q < (D.ids k).length
 ·have hvG:=zfu hv (fun n a1 a2=>hgk n (by omega) a2) dxG.hk.next;have hx:(idC (D.ids k))[q]?=some [.int .i64 ((D.ids k)[q]:Nat)]:=by unfold idC;rw[Zv,Zc hlt];rfl
  rcases hvG with ⟨e0,-⟩|⟨bb,cc,oo,ee⟩
  ·have:(idC (D.ids k)).length=0:=by rw[e0];rfl
   rw[z16] at this;omega
  injection ee with e1 e2 e3;subst e1;have hld:=oo.load hx;rw[Nat.mul_one] at hld;have hdrop:(D.ids k).drop q=(D.ids k)[q] :: (D.ids k).drop (q+1):=ZI hlt;cases hi:Dq.idx k with
  |none=>rw[Db.ids_none hi,hdrop] at hidq;cases hidq
  |some j =>
   obtain⟨p,hp,hkp⟩:=Db.idx_some hi;rw[Db.ids_some hi hp,hdrop] at hidq;have hmem:(D.ids k)[q]∈p.ids:=by rw[hidq];exact List.mem_cons_self
   obtain⟨x,hx1',hx2',hx3'⟩:=(wq.ids p (Zr hp)).2 _ hmem
   repeat' (first|refine qZa ?_|refine qZg ?_|(refine qZe ?_;try simp only[z00])|(refine qZb ?_;simp (config:=qZc) (disch:=first|omega|rfl) only[sB,Za,reduceCtorEq,ia60,ld3,cl22,t0,t20,t21,t22,decl hlt,hld])|(refine qZd ?_ ?_;simp (config:=qZc) (disch:=first|omega|rfl) only[sB];refine z05 ?_))
   refine(zi6 hG wq wG hx1' hx3' (by rw[hx2',hkp];exact hi) hp hmem).mono ?_;rintro v G2 ⟨rfl,hG2,dxG2,wG2⟩
   repeat' (first|(refine qZb ?_;simp (config:=qZc) (disch:=first|omega|rfl) only[sB,Za,t22,z5t (i:=q) (by omega)]))
   refine⟨(D.ids k).length - (q+1),by omega,_,_,q+1,_,rfl,rfl,by omega,(by simp only[sG,reduceCtorEq,t0]),(by simp only[sG,Za,t1]),(by simp only[sG,Za,t5]),(by simp only[sG,Za,t20]),(by simp only[sG,Za,t21]),(by simp only[sG,Za]),hG2,dxG.trans dxG2,wq.gone hx1' hx2'.symm hp hmem,gq.trans (Grew.gone hx1'),by simp only[Db.gone,List.length_set];exact hlq,wG2,?_⟩;have hi2:(Dq.gone (D.ids k)[q] j x p).idx k=some j:=(zt0 (p':={ p with ids:=p.ids.erase (D.ids k)[q] }) hp rfl).trans hi;have hp2:(Dq.gone (D.ids k)[q] j x p).procs[j]?=some { p with ids:=p.ids.erase (D.ids k)[q] }:=by
    simp only[Db.gone];rw[ZD,if_pos rfl,if_pos (List.getElem?_eq_some_iff.1 hp).1]
   rw[Db.ids_some hi2 hp2,hidq,List.erase_cons_head]
 ·have hqe:q=(D.ids k).length:=by omega
  rw[hqe,List.drop_length] at hidq;obtain⟨r0,a1,c1,r3,r4,r5,r6,cells,hs,hl,l0,l1,l2,l3,q1',q2',m0,m3⟩:=hG.open;obtain⟨G1,eG1⟩:∃G1:Heap,(⟨G.next+8,G.t⟩:Heap)=G1:=⟨_,rfl⟩
  have hxG1:HX G G1:=by rw[<-eG1];exact(HX.refl wG).bump 8
  have wG1:=hxG1.wf;obtain⟨hG1,dxG1⟩:=hG.keep wG hxG1;have hs1:=hs.keep wG hxG1;have hl1:LnsR G1 (Off G1 d Dq) Dq.lines cells:=hl.to fun n hn _=>⟨(dxG1.off hn).1,(dxG1.off hn).2.1,(dxG1.off hn).2.2⟩
  have l31:=hxG1.load wG l3;have qG:=z6r (hxG1.get wG gG);have m31:=mk3 hs1;cases hi:Dq.idx k with
  |none =>
   have ed:=zsz m31 hi
   repeat' (first|refine qZa ?_|(refine qZi ?_;try simp only[sB])|(refine qZf ?_)|(refine qZb ?_;simp (config:=qZc) (disch:=first|omega|rfl) only[sA,t21,t22,decn hlt])|(refine qZj [([(0,0),(1,0),(2,0),(3,0),(4,0),(5,0),(6,0)],some 7),([],none)] ?_ ?_;kernel_rfl;simp (config:=qZc) (disch:=first|omega|rfl) only[sD,sB,Za,Zb,Value.cells,one,reduceCtorEq,Zn,layC,ld47,z3d,z8t,zbl,z0c,z0j,t0,t1,t5,eG1,l31,qG,zay,ed,isAlloc,isRead])|(refine qZm ?_ ?_;simp (config:=qZc) (disch:=first|omega|rfl) only[sB];refine z05 ?_))
   exact z04 rfl (by simp only[sB,Za];rfl) ⟨Dq,hG1,(dx03.trans dxG).trans dxG1,wq,gq,hlq,wG1⟩
  |some j =>
   obtain⟨p,hp,hkp⟩:=Db.idx_some hi;rw[Db.ids_some hi hp] at hidq;obtain⟨Bm,ed,md⟩:=zuz m31 hi;obtain⟨G2,e2,hG2,dxG2,wG2,-⟩:=hG1.dropP wG1 hs1 hl1 md;rw[e2] at ed
   repeat' (first|refine qZa ?_|(refine qZi ?_;try simp only[sB])|(refine qZf ?_)|(refine qZb ?_;simp (config:=qZc) (disch:=first|omega|rfl) only[sA,t21,t22,decn hlt])|(refine qZj [([(0,0),(1,0),(2,0),(3,0),(4,0),(5,0),(6,0)],some 7),([],none)] ?_ ?_;kernel_rfl;simp (config:=qZc) (disch:=first|omega|rfl) only[sD,sB,Za,Zb,Value.cells,one,reduceCtorEq,Zn,layC,ld47,z3d,z8t,zbl,z0c,z0j,t0,t1,t5,eG1,l31,qG,zay,ed,isAlloc,isRead])|(refine qZm ?_ ?_;simp (config:=qZc) (disch:=first|omega|rfl) only[sB];refine z05 ?_))
   exact z04 rfl (by simp only[sB,Za];rfl) ⟨_,hG2,((dx03.trans dxG).trans dxG1).trans dxG2,wq.drop hp hidq,gq.trans Grew.drop,hlq,wG2⟩
end
theorem DX.hx {H G H0:Heap}{B d:Nat}{D D':Db}(dx:DX H G d D D') (h:DbB H B d D) (hx0:HX H0 H) (hB:H0.next<=B):HX H0 G:=hx0.then dx.hk fun n hn q=>by have:=h.lo q;omega
theorem zpc {a:Option Addr}{c bs c':Nat}{H:Heap}:okT.K 47 [.slice a 0 c,.int .i64 0,.slice (some ⟨bs,0,none⟩) 1 c'] H=none:=by
 simp only[okT];rw[if_pos trivial];unfold kIns;rw[if_pos rfl];split
 ·rename_i e;simp only[List.cons.injEq,Value.slice.injEq] at e;obtain⟨⟨e1,e2,-⟩,-⟩:=e;subst e2;split
  ·rw[if_neg (fun q=>absurd q.2.1 (Nat.lt_irrefl _))]
  ·rfl
 ·rfl
theorem zpd {l:List Nat}{cs:List Value}(h:cs.take ((idC l).length*1)=(idC l).flatten):cs.take l.length=idV l:=by
 rw[z16,Nat.mul_one] at h;rw[h,zel];generalize idV l=vs
 induction vs with
 |nil=>rfl
 |cons v vs ih=>rw[Zx,List.flatten_cons,ih];rfl
section
variable {H:Heap}{B:Nat}{l:List Nat}
set_option maxHeartbeats 4000000 in
theorem zn9 {v:Value}{id bs:Nat}(h:RepO H 3 1 B (idC l) v) (hg:H.get bs=some (.row [.int .i64 (id:Nat)] 3)) (hne:blkOf v≠some bs) (hm:l.length+1<=most) (hB:B<=H.next) (hw:H.wf) :
  EvF Tryd.prog okT 47 [v,.int .i64 0,.slice (some ⟨bs,0,none⟩) 1 1] H fun u H'=>∃c,u=.slice (some ⟨H.next,0,none⟩) (l.length+1) c/\OwnS H' 3 1 B (idC (id :: l)) H.next c/\H'.wf/\H.next<=H'.next/\∀n,n < H.next->blkOf v≠some n->H'.get n=H.get n:=by
 by_cases hl:l=[]
 ·subst hl;have hld:H.load ⟨bs,0,none⟩ (1*1)=some [.int .i64 (id:Nat)]:=zn1 hg;have hfr:FR H B (.sl 3 1 (idC [])) v:=h;obtain⟨H2,c,e2,o2,n2,w2,k2,-⟩:=hfr.push (c1:=1) hw (ap60) hld rfl rfl (by simp [idC,most]) hB;obtain⟨a,c0,hv,-⟩:=h.slice;have hv:v=.slice a 0 c0:=hv;subst hv;have esl:=zn4 (P:=Tryd.prog) (H:=H) (t:=60) (e:=3) (s:=1) (a:=a) (n:=0) (c:=c0) (k:=.i64) sl60;refine EvF.enter zpc Tryd.func47 (by decide) rfl ?_;have e2':dAp Tryd.prog #[60,60] (.slice a 0 c0) (.slice (some ⟨bs,0,none⟩) 1 1) H=some (.val (.slice (some ⟨H.next,0,none⟩) 1 c) H2):=e2;have d1:(((1:Nat):Int) == 0)=false:=rfl;have d2:((0:Int) == ((0:Nat):Int))=true:=rfl
  repeat' (first|refine qZa ?_|(refine qZe ?_;try simp only[z00])|(refine qZf ?_;try simp only[z06,z01])|(refine qZb ?_;simp (config:=qZc) (disch:=first|omega|rfl) only[sB,initTm,Za,Zb,reduceCtorEq,ln60,esl,e2',d1,d2])|(refine qZd ?_ ?_;simp (config:=qZc) (disch:=first|omega|rfl) only[sB,Za,reduceCtorEq];refine z05 ?_)|(refine qZm ?_ ?_;simp (config:=qZc) (disch:=first|omega|rfl) only[sB,Za,reduceCtorEq];refine z05 ?_))
  exact z04 rfl (by simp only[sG,Za,reduceCtorEq]) ⟨c,rfl,o2,w2,by omega,k2⟩
 ·rcases h with ⟨e,-⟩|⟨b,c,o,rfl⟩
  ·exact absurd (List.length_eq_zero_iff.1 (by rw[<-z16,e];rfl)) hl
  ·rw[z16] at hne ⊢;obtain⟨cs,hgb,hle,htk⟩:=o.row;rw[z16,Nat.mul_one] at hle;have htv:=zpd htk;have hbn:b < H.next:=o.hi;have hbb:b≠bs:=fun e=>hne (by rw[e];rfl)
   have h0:0 < l.length:=List.length_pos_iff.2 hl;refine EvF.know (v:=.slice (some ⟨H.next,0,none⟩) (l.length+1) (l.length+1)) (H':=(H.put b none).new (some (.row ([Value.int .i64 (id:Nat)].take 1++cs.take l.length) 3))) ?_ ⟨l.length+1,rfl,?_,?_,by show H.next<=H.next+1;omega,fun n hn hnb=>?_⟩
   ·simp only[okT];rw[if_pos trivial];unfold kIns;rw[if_pos rfl];simp only[hgb,hg];rw[if_pos ⟨hbb,h0,hm,trivial,trivial,hle,Zf _,by rw[htv];exact zcd l,rfl⟩]
   ·have e:[Value.int .i64 (id:Nat)].take 1++cs.take l.length=idV (id :: l):=by rw[htv];rfl
    rw[e,zel];exact OwnS.ones z0i hB (Zg _) (by rw[z9q];exact Zf _) (Zk hm (by simp [most,maxLen])) (zcd _)
   ·exact(((HK.refl (S:=fun n=>n=b) hw).put (.inl rfl) hbn none).new _).wf
   ·rw[z1d (by rw[z07];exact hn),z2d (fun e=>hnb (by rw[e];rfl))]
end
section
variable {H:Heap}{B d:Nat}{D:Db}
theorem DbB.addLine (h:DbB H B d D) (hw:H.wf) {cells:List (List Value)}{v0 v1 v2 v3 v4 v5 v6:Value}(hs:StR H B d 110 (dFlds D cells) [v0,v1,v2,v3,v4,v5,v6]) (hl:LnsR H (Off H d D) D.lines cells) {x:Ln}{cs:List Value}{ad:Addr}{c1:Nat}
  (hld:H.load ad (1*19)=some (lnC x cs)) (hr:RepD H (Off H d D) x.c cs) (hm:D.lines.length+1<=most) :
  ∃H2 cc H3,dAp Tryd.prog #[108,108] v1 (.slice (some ad) 1 c1) H=some (.val (.slice (some ⟨H.next,0,none⟩) (D.lines.length+1) cc) H2)/\H2.get d=some (.row [v0,v1,v2,v3,v4,v5,v6] 110)/\H2.put d (some (.row [v0,.slice (some ⟨H.next,0,none⟩) (D.lines.length+1) cc,v2,v3,v4,v5,v6] 110))=H3 /\
   DbB H3 B d { D with lines:=D.lines++[x] }/\DX H H3 d D { D with lines:=D.lines++[x] }/\H3.wf/\H3.next=H2.next/\(∀n,n < H.next->blkOf v1≠some n->H2.get n=H.get n) /\
   ∃cells',StR H3 B d 110 (dFlds { D with lines:=D.lines++[x] } cells') [v0,.slice (some ⟨H.next,0,none⟩) (D.lines.length+1) cc,v2,v3,v4,v5,v6]/\LnsR H3 (Off H3 d { D with lines:=D.lines++[x] }) (D.lines++[x]) cells':=by
 obtain⟨h15,hone⟩:=hr.len;have hcl:cells.length=D.lines.length:=hl.1;obtain⟨H2,cc,e2,g2,w2,k2,H3,e3,hs3,sx⟩:=hs.pushed (i:=1) (v:=v1) (c1:=c1) hw (zva) rfl rfl hld (by simp [lnC,h15]) (by unfold lnC;simp only[List.all_cons,List.all_append,hone];rfl) (by rw[hcl];exact hm);rw[hcl] at e2 hs3 e3;have hoff:∀S:Nat->Prop,(∀n,Off H d D n->S n)->∀n,Off H d D n->n < H.next->H3.get n=H.get n/\S n/\n < H3.next:=fun S h1 n hn hl=>⟨sx.hk.keep n hl fun q=>hn.2 (.inl q),h1 n hn,Zh hl sx.next⟩
 have hls:∀S:Nat->Prop,(∀n,Off H d D n->S n)->LnsR H3 S (D.lines++[x]) (cells++[lnC x cs]):=fun S h1=>⟨by simp [hcl],fun i y hy=>by
  by_cases hi:i < D.lines.length
  ·rw[ZC hi] at hy;rw[ZC (by omega)];obtain⟨cs2,q1,q2⟩:=hl.2 i y hy;exact⟨cs2,q1,q2.to (hoff S h1)⟩
  ·have hil:=(List.getElem?_eq_some_iff.1 hy).1;simp only[Zy,List.length_singleton] at hil;have hie:i=D.lines.length:=by omega
   subst hie;simp at hy;subst hy;exact⟨cs,by rw[<-hcl];simp,hr.to (hoff S h1)⟩⟩
 have hx2:=h.turn (D':={ D with lines:=D.lines++[x] }) hw (cells':=cells++[lnC x cs]) hs3 sx (fun _ h=>h) fun S h1 h2=>hls S h1
 exact⟨H2,cc,H3,e2,g2,e3,hx2.1,hx2.2,sx.wf,by rw[<-e3];rfl,k2,_,hs3,hls _ fun n hn=>(hx2.2.off hn).2.1⟩
theorem zw5 {r nb:Nat}{k:PK}(hm:MapK pkv H r (procK D)) (hi:D.idx k=none):∃Bm,dUp Tryd.prog 104 (.map (some r)) (pkv k) (ptr nb) H=some (.val undef (H.put r (some Bm)))/\MapK pkv (H.put r (some Bm)) r (procK D++[(k,ptr nb)]) :=
 zi4 keyP Tryd.underlying104 hm (z4w.trans hi)
end
end Go.Proofs.hq
end
