import Derived.Test.YtbooidfibigfcaaGreatDoorM3
import Derived.Test.YtbooidfibigfcaaGreatDoorM5
import Derived.Test.YtbooidfibigfcaaGreatDoorM4
/- Lemmas on the program's own code, towards the laws of this folder, part 6. Conditions: as each lemma says. -/
open Bool renaming and_eq_true -> Zk, false_eq_true -> Zg, not_false -> ZM, not_true -> Zv
open ByteArray renaming empty -> Zd
open List renaming drop_eq_getElem_cons -> ZG, getElem?_append_left -> Zz, getElem?_append_right -> ZC, getElem?_drop -> ZN, getElem?_eq_getElem -> Zc, getElem?_eq_none -> Zy, getElem?_map -> Zw, getElem?_take -> ZJ, getElem_mem -> Zu, getElem_of_mem -> ZO, length_append -> Zr, length_cons -> ZD, length_map -> Zp, length_take -> Zo, mem_cons_of_mem -> Zn, mem_of_getElem? -> Zx, not_mem_nil -> ZF, range -> Zh, take_of_length_le -> Zm
open Nat renaming beq -> Zs, beq_eq -> Zt, le_refl -> Ze, le_trans -> Zj, lt_of_lt_of_le -> Zi, lt_succ_self -> Zf, reduceAdd -> Zb, reduceEqDiff -> Za, reduceLeDiff -> Zq, zero_add -> ZP, zero_le -> Zl, zero_mul -> ZK
open Option renaming bind_some -> ZB, map_some -> ZE
section
namespace Go.Proofs.hq
open Go Go.RowKit Go.Hb
variable {ok:Ok}
set_option maxRecDepth 10000
attribute [local irreducible] LX LG EL STG SOP SGO SGD SAL SRD SEF SEG SLK SCK ES
theorem z9k (t:Tm):cnt t 0<=nd t:=by
 have h1:=z4a t;by_cases h:cnt t 0<=4000
 ·have:=zam _ t (Zf _) 0 h;omega
 ·by_cases k:nd t<=4000
  ·have:=z3z _ t (Zf _) 0 (by omega);omega
  ·omega
theorem z3g (u:Bdy):szB u=1+nd u.term+szB.szBL u.sub:=by obtain⟨k,t,l⟩:=u;rw[szB];rfl
noncomputable def szF:Bdy->Nat->Nat
 |.mk _ t l,n=>szFL l (n+(1+cnt t 0))
where szFL:List Bdy->Nat->Nat
 |[],n=>n
 |b :: l,n=>if 20000 < n then n else szFL l (szF b n)
theorem zn3 (u:Bdy) (n:Nat):szF u n=szF.szFL u.sub (n+(1+cnt u.term 0)):=by obtain⟨k,t,l⟩:=u;rw[szF];rfl
theorem zn4 {l:List Bdy}{i:Nat}(h:i < l.length) (n:Nat):szF.szFL (l.drop i) n=if 20000 < n then n else szF.szFL (l.drop (i+1)) (szF l[i] n):=by
 rw[ZG h,szF.szFL]
theorem zn5:∀(m:Nat) (u:Bdy) (n:Nat),SizeOf.sizeOf u < m->n<=20000->szF u n<=24002
 |0,_,_,h,_=>absurd h (Nat.not_lt_zero _)
 |m+1,u,n,hs,hn=>by
  rw[zn3];have hc:=z4a u.term;have:∀l:List Bdy,(∀b∈l,SizeOf.sizeOf b < m)->∀k,k<=24002->szF.szFL l k<=24002:=by
   intro l
   induction l with
   |nil=>intro _ k hk;rw[szF.szFL];exact hk
   |cons b l ih =>
    intro hb k hk;rw[szF.szFL];split
    ·exact hk
    ·exact ih (fun x hx=>hb x (Zn _ hx)) _ (zn5 m b k (hb b (by simp)) (by omega))
  exact this u.sub (fun b hb=>by have:=u.size b hb;omega) _ (by omega)
theorem zr5:∀(m:Nat) (u:Bdy) (n:Nat),SizeOf.sizeOf u < m->szF u n<=n+szB u
 |0,_,_,h=>absurd h (Nat.not_lt_zero _)
 |m+1,u,n,hs=>by
  rw[zn3,z3g];have hc:=z9k u.term;have:∀l:List Bdy,(∀b∈l,SizeOf.sizeOf b < m)->∀k,szF.szFL l k<=k+szB.szBL l:=by
   intro l
   induction l with
   |nil=>intro _ k;rw[szF.szFL,szB.szBL];omega
   |cons b l ih =>
    intro hb k;rw[szF.szFL,szB.szBL];split
    ·omega
    ·have h1:=ih (fun x hx=>hb x (Zn _ hx)) (szF b k);have h2:=zr5 m b k (hb b (by simp));omega
  have h1:=this u.sub (fun b hb=>by have:=u.size b hb;omega) (n+(1+cnt u.term 0));omega
theorem zpd {l:List Bdy}{i:Nat}(h:¬i < l.length) (n:Nat):szF.szFL (l.drop i) n=n:=by
 rw[List.drop_eq_nil_of_le (by omega),szF.szFL]
set_option maxHeartbeats 8000000 in
theorem zn6 {m:Nat}:∀{u:Bdy}{cs:List Value}{n:Nat}{H:Heap},SizeOf.sizeOf u < m->RepB H u cs->n<=20000->H.wf ->
  EvF Tryz.prog okT 58 [.agg ⟨cs⟩,.int .i64 n] H fun v H'=>HX H H'/\v=.int .i64 (szF u n):=by
 induction m with
 |zero=>intro u cs n H h;omega
 |succ m ih =>
 intro u cs n H hsz r hn hw;obtain⟨ts,a,c,cells,rfl,hk,rt,rl⟩:=r.inv;obtain⟨ta,tc,cellst,rfl,-⟩:=rt.inv;have hz:=zn3 u n;have hcn:=z4a u.term;have hm:=rl.cap;have hl:=rl.len;have hmx:u.sub.length<=9223372036854775807:=Zj hl (Zj hm (by decide));show EvF Tryz.prog okT 58 [.agg ⟨eightT u.kind u.term ta tc a u.sub.length c⟩,.int .i64 n] H _;refine EvF.enter rfl Tryz.func58 (by decide) rfl ?_;(repeat refine qZa ?_);refine qZb ?_;simp (config:=qZc) (disch:=first|omega|rfl) only[sB,initTm,dBox,Value.cells,one,reduceCtorEq];obtain⟨H2,e2,hx2,gp,hnx,hw2⟩:=new1 hw (.row (eightT u.kind u.term ta tc a u.sub.length c) 45);simp only[e2];have q1:=row8 gp;clear e2;(repeat refine qZa ?_);refine qZb ?_;simp (config:=qZc) (disch:=first|omega|rfl) only[sB,Za,reduceCtorEq,z5l,ld28,cl33,q1];refine(z1j _ _ _ (rt.mono hx2 hw) hw2).mono ?_;rintro v H3 ⟨rfl,hx3⟩;have gp3:=hx3.get hw2 gp;have q1:=row8 gp3;have hx:=hx2.trans hx3
 repeat' (first|refine qZa ?_|refine qZg ?_|(refine qZb ?_;simp (config:=qZc) (disch:=first|omega|rfl) only[sB,Za,reduceCtorEq,z29,ld43,ln43,q1])|(refine z0q ?_;simp (config:=qZc) (disch:=first|omega|rfl) only[sB,Za,reduceCtorEq,z0c]))
 refine qZk (fun k st=>∃tm H' i x,st=⟨tm,[],H'⟩/\k=u.sub.length - i/\i<=u.sub.length/\x<=24002/\szF.szFL (u.sub.drop i) x=szF u n /\
   tm.get 1=some (.int .i64 (x:Nat))/\tm.get 14=some (.slice a u.sub.length c)/\tm.get 15=some (.int .i64 u.sub.length)/\tm.get 16=some (.int .i64 (i:Nat))/\HX H H') ?_ u.sub.length _ ?_
 rotate_left
 ·exact⟨_,_,0,n+(1+cnt u.term 0),rfl,rfl,by omega,by omega,by rw[List.drop_zero,hz],(by simp only[sB,Za,reduceCtorEq];rfl),(by simp only[sG,Za,reduceCtorEq]),(by simp only[sG,Za,reduceCtorEq]),(by simp only[sB,Za,reduceCtorEq];rfl),hx⟩
 rintro k st ⟨tm,H',i,x,rfl,rfl,hi,hxc,hxs,t1,t14,t15,t16,hx'⟩;by_cases hlt:i < u.sub.length
 ·obtain⟨b,o,rfl,hld,hr1⟩:=rl.el hlt;obtain⟨ua,uc,va,vc,hc1⟩:=hr1.eight;rw[hc1] at hr1 hld;have hld1:=hx'.load hw hld;have w':=hx'.wf;rw[zn4 hlt] at hxs;(repeat refine qZa ?_);refine qZb ?_;simp (config:=qZc) (disch:=first|omega|rfl) only[sA,t15,t16,decl hlt];(repeat refine qZa ?_);refine qZd (by simp (config:=qZc) (disch:=first|omega|rfl) only[sB]) ?_;(try refine qZe ?_);(try simp only[z00,z04]);(repeat refine qZa ?_);refine qZg ?_;(repeat refine qZa ?_);refine qZb ?_;simp (config:=qZc) (disch:=first|omega|rfl) only[sB,dAlloc,Za,Zb,one,ia43,ld45,zr45,st45,t14,t16,hld1];obtain⟨H4,e4,hx4,g6,hn4,w4⟩:=z0m w' (.row zero8 45) (.row (eightT u.sub[i].kind u.sub[i].term ua uc va u.sub[i].sub.length vc) 45);simp only[e4];clear e4;have q6:=row8 g6;have hs:=u.size _ (Zu hlt);by_cases hb:20000 < x
  ·rw[if_pos hb] at hxs;have hd:decide ((x:Int) > 20000)=true:=decide_eq_true (by omega)
   repeat' (first|refine qZa ?_|(refine qZi ?_;try simp only[sB,reduceCtorEq])|(refine qZf ?_)|(refine qZb ?_;simp (config:=qZc) (disch:=first|omega|rfl) only[sB,Za,t1,hd])|(refine qZd ?_ ?_;simp (config:=qZc) (disch:=first|omega|rfl) only[sB,Za];refine z02 ?_))
   exact z03 rfl (by simp only[sB,Za];rfl) ⟨hx'.trans hx4,by rw[hxs]⟩
  rw[if_neg hb] at hxs;have hd:decide ((x:Int) > 20000)=false:=decide_eq_false (by omega);(repeat refine qZa ?_);refine qZb ?_;simp (config:=qZc) (disch:=first|omega|rfl) only[sB,Za,t1,hd];refine qZm (by simp (config:=qZc) (disch:=first|omega|rfl) only[sB,Za]) ?_;(try refine qZe ?_);(try simp only[z00,z04]);refine qZb ?_;simp (config:=qZc) (disch:=first|omega|rfl) only[sB,Za,ld45,cl58,t1,q6];refine(ih (u:=u.sub[i]) (n:=x) (by omega) ((hr1.mono hx' hw).mono hx4 w') (by omega) w4).mono ?_;rintro v H5 ⟨hx5,rfl⟩
  repeat' (first|(refine qZb ?_;simp (config:=qZc) (disch:=first|omega|rfl) only[sB,Za,t16,z0c]))
  exact⟨u.sub.length - (i+1),by omega,_,_,i+1,szF u.sub[i] x,rfl,rfl,by omega,zn5 _ _ _ (Zf _) (by omega),hxs,(by simp only[sG,Za]),(by simp only[sG,Za,t14]),(by simp only[sG,Za,t15]),(by simp only[sB,Za];rfl),(hx'.trans hx4).trans hx5⟩
 ·rw[zpd hlt] at hxs
  repeat' (first|refine qZa ?_|(refine qZi ?_;try simp only[sB])|(refine qZf ?_)|(refine qZb ?_;simp (config:=qZc) (disch:=first|omega|rfl) only[sB,Za,t1,t15,t16,decn hlt])|(refine qZm ?_ ?_;simp (config:=qZc) (disch:=first|omega|rfl) only[sB];refine z02 ?_))
  exact z03 rfl (by simp only[sB,Za];rfl) ⟨hx',by rw[hxs]⟩
def RdC (H:Heap) (c:Cls) (cs:List Value):Prop:=∃ha hc ta tc a k,cs=fift c.head ha hc c.body.kind c.body.term ta tc a c.body.sub.length k c.vars/\RepT H c.head (six c.head ha hc)/\RepB H c.body (eightT c.body.kind c.body.term ta tc a c.body.sub.length k)
theorem RepC.rd {H:Heap}{S:Nat->Prop}{c:Cls}{cs:List Value}(h:RepC H S c cs):RdC H c cs:=by
 obtain⟨ha,hc,ta,tc,a,k,h1,h2,h3⟩:=h;exact⟨ha,hc,ta,tc,a,k,h1,h2.rep,h3.rep⟩
theorem RdC.mono {H H':Heap}{c:Cls}{cs:List Value}(h:RdC H c cs) (hx:HX H H') (hw:H.wf):RdC H' c cs:=by
 obtain⟨ha,hc,ta,tc,a,k,h1,h2,h3⟩:=h;exact⟨ha,hc,ta,tc,a,k,h1,h2.mono hx hw,h3.mono hx hw⟩
noncomputable def eqB (b b':Bdy):Bool:=@decide (b=b') (Classical.propDecidable _)
theorem zn7 {t t':Bdy}(h:t=t'):eqB t t'=true:=by unfold eqB;exact @decide_eq_true _ (Classical.propDecidable _) h
theorem zfj {t t':Bdy}(h:t≠t'):eqB t t'=false:=by unfold eqB;exact @decide_eq_false _ (Classical.propDecidable _) h
theorem zt4 {b b':Bdy}(h1:b.kind=b'.kind) (h2:b.term=b'.term) (h3:b.sub=b'.sub):b=b':=by
 obtain⟨k,t,l⟩:=b;obtain⟨k',t',l'⟩:=b';obtain rfl:k=k':=h1;obtain rfl:t=t':=h2;obtain rfl:l=l':=h3;rfl
noncomputable def eqC (b b':Cls):Bool:=@decide (b=b') (Classical.propDecidable _)
theorem zt5 {b b':Cls}(h1:b.head=b'.head) (h2:b.body=b'.body) (h3:b.vars=b'.vars):b=b':=by
 obtain⟨k,t,l⟩:=b;obtain⟨k',t',l'⟩:=b';obtain rfl:k=k':=h1;obtain rfl:t=t':=h2;obtain rfl:l=l':=h3;rfl
set_option maxHeartbeats 4000000 in
theorem zea {m:Nat}:∀{t t':Tm}{cs cs':List Value}{H:Heap},SizeOf.sizeOf t < m->RepT H t cs->RepT H t' cs'->H.wf ->
  EvF Tryz.prog okT 35 [.agg ⟨cs⟩,.agg ⟨cs'⟩] H fun v H'=>v=.bool (eqT t t')/\HX H H':=by
 induction m with
 |zero=>intro t t' cs cs' H h;omega
 |succ m ih =>
 intro t t' cs cs' H hsz r r' hw;obtain⟨a,c,cells,rfl,b1,b2,b3,b4,b5,rl⟩:=r.six;obtain⟨a',c',cells',rfl,b1',b2',b3',b4',b5',rl'⟩:=r'.six;refine EvF.enter rfl Tryz.func35 (by decide) rfl ?_;(repeat refine qZa ?_);refine qZb ?_;simp (config:=qZc) (disch:=first|omega|rfl) only[sB,initTm,dBox,Za,Value.cells,one,reduceCtorEq];obtain⟨H2,e2,hx2,gp,gq,hnx,hw2⟩:=new2 hw (.row (six t a c) 28) (.row (six t' a' c') 28);simp only[e2];have q1:=row6 gp;have q2:=row6 gq;clear e2;by_cases k1:t.kind=t'.kind;rotate_left
 ·repeat' (first|refine qZa ?_|(refine qZf ?_;try simp only[z06,z01])|(refine qZb ?_;simp (config:=qZc) (disch:=first|omega|rfl) only[sB,Za,reduceCtorEq,z0i,ld3,z1z k1,q1,q2])|(refine qZd ?_ ?_;simp (config:=qZc) (disch:=first|omega|rfl) only[sB,Za,reduceCtorEq];refine z02 ?_))
  exact z03 rfl (by simp only[sB,Za,reduceCtorEq];rfl) ⟨by rw[z2e (fun h=>k1 (by rw[h]))],hx2⟩
 by_cases k2:t.name=t'.name;rotate_left
 ·repeat' (first|refine qZa ?_|(refine qZf ?_;try simp only[z06,z01])|(refine qZb ?_;simp (config:=qZc) (disch:=first|omega|rfl) only[sB,Za,reduceCtorEq,z0i,ld3,z11,ld9,z15 k1,q1,q2,z10,z5m k2,ZM,Zg])|(refine qZd ?_ ?_;simp (config:=qZc) (disch:=first|omega|rfl) only[sB,Za,reduceCtorEq];refine z02 ?_))
  exact z03 rfl (by simp only[sB,Za,reduceCtorEq];rfl) ⟨by rw[z2e (fun h=>k2 (by rw[h]))],hx2⟩
 by_cases k3:t.num=t'.num;rotate_left
 ·repeat' (first|refine qZa ?_|(refine qZf ?_;try simp only[z06,z01])|(refine qZb ?_;simp (config:=qZc) (disch:=first|omega|rfl) only[sB,Za,reduceCtorEq,z0i,ld3,z11,ld9,z3d,z15 k1,q1,q2,z10,z1a k2,z5m k3,ZM,Zv,Zg])|(refine qZd ?_ ?_;simp (config:=qZc) (disch:=first|omega|rfl) only[sB,Za,reduceCtorEq];refine z02 ?_))
  exact z03 rfl (by simp only[sB,Za,reduceCtorEq];rfl) ⟨by rw[z2e (fun h=>k3 (by rw[h]))],hx2⟩
 by_cases k4:t.bits=t'.bits;rotate_left
 ·repeat' (first|refine qZa ?_|(refine qZf ?_;try simp only[z06,z01])|(refine qZb ?_;simp (config:=qZc) (disch:=first|omega|rfl) only[sB,Za,reduceCtorEq,z0i,ld3,z11,ld9,z3d,z4n,ld25,z15 k1,q1,q2,z10,z1a k2,z1a k3,z1z k4,Zv,Zg])|(refine qZd ?_ ?_;simp (config:=qZc) (disch:=first|omega|rfl) only[sB,Za,reduceCtorEq];refine z02 ?_))
  exact z03 rfl (by simp only[sB,Za,reduceCtorEq];rfl) ⟨by rw[z2e (fun h=>k4 (by rw[h]))],hx2⟩
 by_cases k5:t.var=t'.var;rotate_left
 ·repeat' (first|refine qZa ?_|(refine qZf ?_;try simp only[z06,z01])|(refine qZb ?_;simp (config:=qZc) (disch:=first|omega|rfl) only[sB,Za,reduceCtorEq,z0i,ld3,z11,ld9,z3d,z4n,ld25,z3e,z15 k1,q1,q2,z10,z1a k2,z1a k3,z15 k4,z1z k5,Zv,Zg])|(refine qZd ?_ ?_;simp (config:=qZc) (disch:=first|omega|rfl) only[sB,Za,reduceCtorEq];refine z02 ?_))
  exact z03 rfl (by simp only[sB,Za,reduceCtorEq];rfl) ⟨by rw[z2e (fun h=>k5 (by rw[h]))],hx2⟩
 by_cases k6:(t.args.length:Int)=t'.args.length;rotate_left
 ·repeat' (first|refine qZa ?_|(refine qZf ?_;try simp only[z06,z01])|(refine qZb ?_;simp (config:=qZc) (disch:=first|omega|rfl) only[sB,Za,reduceCtorEq,z0i,ld3,z11,ld9,z3d,z4n,ld25,z3e,z0u,ld26,ln26,z15 k1,q1,q2,z10,z1a k2,z1a k3,z15 k4,z15 k5,z1z k6,Zv,Zg])|(refine qZd ?_ ?_;simp (config:=qZc) (disch:=first|omega|rfl) only[sB,Za,reduceCtorEq];refine z02 ?_))
  exact z03 rfl (by simp only[sB,Za,reduceCtorEq];rfl) ⟨by rw[z2e (fun h=>k6 (by rw[h]))],hx2⟩
 repeat' (first|refine qZa ?_|refine qZg ?_|(refine qZe ?_;try simp only[z00])|(refine qZb ?_;simp (config:=qZc) (disch:=first|omega|rfl) only[sB,Za,reduceCtorEq,z0i,ld3,z11,ld9,z3d,z4n,ld25,z3e,z0u,ld26,ln26,z15 k1,q1,q2,z10,z1a k2,z1a k3,z15 k4,z15 k5,z15 k6,Zv,Zg])|(refine qZm ?_ ?_;simp (config:=qZc) (disch:=first|omega|rfl) only[sB,Za,reduceCtorEq];refine z02 ?_))
 have hlen:t.args.length=t'.args.length:=by omega
 have hm:=rl.max;refine qZk (fun k st=>∃tm H' i,st=⟨tm,[],H'⟩/\k=t.args.length - i/\i<=t.args.length/\(∀j,j < i->t.args[j]?=t'.args[j]?) /\
   tm.get 2=some (.pointer (some ⟨H.next,0,none⟩))/\tm.get 3=some (.pointer (some ⟨H.next+1,0,none⟩))/\tm.get 50=some (.int .i64 t.args.length)/\tm.get 51=some (.int .i64 (i:Nat)) /\
   H'.get H.next=some (.row (six t a c) 28)/\H'.get (H.next+1)=some (.row (six t' a' c') 28)/\HX H H') ?_ t.args.length _ ?_
 ·rintro k st ⟨tm,H',i,rfl,rfl,hi,hc,t2,t3,t50,t51,gp',gq',hx'⟩;have q1:=row6 gp';have q2:=row6 gq';by_cases hlt:i < t.args.length
  ·have hlt':i < t'.args.length:=by omega
   obtain⟨b,o,a1,c1,rfl,hld,hr1⟩:=rl.el hlt;obtain⟨b',o',a2,c2,rfl,hld',hr2⟩:=rl'.el hlt';have hld1:=hx'.load hw hld;have hld2:=hx'.load hw hld'
   repeat' (first|refine qZa ?_|refine qZg ?_|(refine qZe ?_;try simp only[z00])|(refine qZb ?_;simp (config:=qZc) (disch:=first|omega|rfl) only[sB,Za,t50,t51,decl hlt])|(refine qZj [([(0,0),(1,0),(2,0),(3,0),(4,0),(5,0),(6,0),(7,0),(8,0),(9,0)],some 10),([(11,1)],none)] ?_ ?_;kernel_rfl;simp (config:=qZc) (disch:=first|omega|rfl) only[sD,sB,Za,Zb,reduceCtorEq,z0u,ld26,ia26,ld28,cl35,t2,t3,q1,q2,hld1,hld2,isAlloc,isRead])|(refine qZd ?_ ?_;simp (config:=qZc) (disch:=first|omega|rfl) only[sB];refine z02 ?_))
   have hb:=hx'.bump 12;have hs:=z22 (Zc hlt);refine(ih (t:=t.args[i]) (t':=t'.args[i]) (by omega) (hr1.mono hb hw) (hr2.mono hb hw) hb.wf).mono ?_;rintro v H4 ⟨rfl,hx4⟩;have hx5:=hb.trans hx4;by_cases he:t.args[i]=t'.args[i]
   ·repeat' (first|(refine qZe ?_;try simp only[sA])|(refine qZb ?_;simp (config:=qZc) (disch:=first|omega|rfl) only[sB,Za,t51,z0c])|(refine z0p ?_;simp (config:=qZc) (disch:=first|omega|rfl) only[sD,sB,Za,z7v he,Zv,isAlloc,isRead])|(refine qZm ?_ ?_;simp (config:=qZc) (disch:=first|omega|rfl) only[sB,Za];refine z02 ?_))
    refine⟨t.args.length - (i+1),by omega,_,_,i+1,rfl,rfl,by omega,fun j hj=>?_,(by simp only[sG,Za,t2]),(by simp only[sG,Za,t3]),(by simp only[sG,Za,t50]),(by simp only[sB,Za];rfl),hx4.get hb.wf gp',hx4.get hb.wf gq',hx5⟩;by_cases hji:j=i
    ·subst hji;rw[Zc hlt,Zc hlt',he]
    ·exact hc j (by omega)
   ·repeat' (first|refine qZa ?_|(refine qZf ?_;try simp only[z06,z01])|(refine qZb ?_;simp (config:=qZc) (disch:=first|omega|rfl) only[sA])|(refine z0p ?_;simp (config:=qZc) (disch:=first|omega|rfl) only[sD,sB,Za,z2e he,ZM,isAlloc,isRead])|(refine qZd ?_ ?_;simp (config:=qZc) (disch:=first|omega|rfl) only[sB,Za];refine z02 ?_))
    refine z03 rfl (by simp only[sB,Za];rfl) ⟨?_,hx5⟩;rw[z2e];rintro rfl;exact he rfl
  ·repeat' (first|refine qZa ?_|(refine qZi ?_;try simp only[sB])|(refine qZf ?_)|(refine qZb ?_;simp (config:=qZc) (disch:=first|omega|rfl) only[sA,t50,t51,decn hlt])|(refine qZm ?_ ?_;simp (config:=qZc) (disch:=first|omega|rfl) only[sB];refine z02 ?_))
   refine z03 rfl (by simp only[sB,Za];rfl) ⟨?_,hx'⟩;rw[z7v];refine zly k1 k2 k3 k4 k5 (List.ext_getElem? fun j=>?_);by_cases hj:j < i
   ·exact hc j hj
   ·rw[Zy (by omega),Zy (by omega)]
 ·exact⟨_,_,0,rfl,rfl,by omega,by omega,(by simp only[sG,Za,reduceCtorEq]),(by simp only[sG,Za,reduceCtorEq]),(by simp only[sG,Za,reduceCtorEq]),(by simp only[sB,Za,reduceCtorEq];rfl),gp,gq,hx2⟩
set_option maxHeartbeats 8000000 in
theorem z6z {m:Nat}:∀{t t':Bdy}{cs cs':List Value}{H:Heap},SizeOf.sizeOf t < m->RepB H t cs->RepB H t' cs'->H.wf ->
  EvF Tryz.prog okT 36 [.agg ⟨cs⟩,.agg ⟨cs'⟩] H fun v H'=>v=.bool (eqB t t')/\HX H H':=by
 induction m with
 |zero=>intro t t' cs cs' H h;omega
 |succ m ih =>
 intro t t' cs cs' H hsz r r' hw;obtain⟨ts,a,c,cells,rfl,hk,rt,rl⟩:=r.inv;obtain⟨ts',a',c',cells',rfl,-,rt',rl'⟩:=r'.inv;obtain⟨ta,tc,cellst,rfl,-⟩:=rt.inv;obtain⟨ta',tc',cellst',rfl,-⟩:=rt'.inv;show EvF Tryz.prog okT 36 [.agg ⟨eightT t.kind t.term ta tc a t.sub.length c⟩,.agg ⟨eightT t'.kind t'.term ta' tc' a' t'.sub.length c'⟩] H _;refine EvF.enter rfl Tryz.func36 (by decide) rfl ?_;(repeat refine qZa ?_);refine qZb ?_;simp (config:=qZc) (disch:=first|omega|rfl) only[sB,initTm,dBox,Za,Value.cells,one,reduceCtorEq];obtain⟨H2,e2,hx2,gp,gq,hnx,hw2⟩:=new2 hw (.row (eightT t.kind t.term ta tc a t.sub.length c) 45) (.row (eightT t'.kind t'.term ta' tc' a' t'.sub.length c') 45);simp only[e2];have q1:=row8 gp;have q2:=row8 gq;clear e2;by_cases k1:t.kind=t'.kind;rotate_left
 ·repeat' (first|refine qZa ?_|(refine qZf ?_;try simp only[z06,z01])|(refine qZb ?_;simp (config:=qZc) (disch:=first|omega|rfl) only[sB,Za,reduceCtorEq,z14,ld3,z1z k1,q1,q2])|(refine qZd ?_ ?_;simp (config:=qZc) (disch:=first|omega|rfl) only[sB,Za,reduceCtorEq];refine z02 ?_))
  exact z03 rfl (by simp only[sB,Za,reduceCtorEq];rfl) ⟨by rw[zfj (fun h=>k1 (by rw[h]))],hx2⟩
 (repeat refine qZa ?_);refine qZb ?_;simp (config:=qZc) (disch:=first|omega|rfl) only[sB,Za,reduceCtorEq,z14,ld3,z5l,ld28,cl35,q1,q2,z15 k1];refine(zea (Zf _) (rt.mono hx2 hw) (rt'.mono hx2 hw) hw2).mono ?_;rintro v H3 ⟨rfl,hx3⟩;have gp3:=hx3.get hw2 gp;have gq3:=hx3.get hw2 gq;have q1:=row8 gp3;have q2:=row8 gq3;have hx:=hx2.trans hx3;by_cases k2:t.term=t'.term;rotate_left
 ·repeat' (first|refine qZa ?_|(refine qZf ?_;try simp only[z06,z01])|(refine qZb ?_;simp (config:=qZc) (disch:=first|omega|rfl) only[sA])|(refine z0q ?_;simp (config:=qZc) (disch:=first|omega|rfl) only[sB,Za,reduceCtorEq,z2e k2,ZM])|(refine qZd ?_ ?_;simp (config:=qZc) (disch:=first|omega|rfl) only[sB,Za,reduceCtorEq];refine z02 ?_))
  exact z03 rfl (by simp only[sB,Za,reduceCtorEq];rfl) ⟨by rw[zfj (fun h=>k2 (by rw[h]))],hx⟩
 by_cases k3:(t.sub.length:Int)=t'.sub.length;rotate_left
 ·repeat' (first|refine qZa ?_|(refine qZf ?_;try simp only[z06,z01])|(refine qZb ?_;simp (config:=qZc) (disch:=first|omega|rfl) only[sA])|(refine z0q ?_;simp (config:=qZc) (disch:=first|omega|rfl) only[sB,Za,reduceCtorEq,z29,ld43,ln43,z7v k2,q1,q2,z1z k3,Zv,Zg])|(refine qZd ?_ ?_;simp (config:=qZc) (disch:=first|omega|rfl) only[sB,Za,reduceCtorEq];refine z02 ?_))
  exact z03 rfl (by simp only[sB,Za,reduceCtorEq];rfl) ⟨by rw[zfj (fun h=>k3 (by rw[h]))],hx⟩
 have hlen:t.sub.length=t'.sub.length:=by omega
 have hm:=rl.cap;have hl:=rl.len;have hmx:t.sub.length<=9223372036854775807:=Zj hl (Zj hm (by decide))
 repeat' (first|refine qZa ?_|refine qZg ?_|(refine qZe ?_;try simp only[z00])|(refine qZb ?_;simp (config:=qZc) (disch:=first|omega|rfl) only[sB,Za,reduceCtorEq,z29,ld43,ln43,q1])|(refine z0q ?_;simp (config:=qZc) (disch:=first|omega|rfl) only[sB,Za,reduceCtorEq,z29,ld43,ln43,z7v k2,q1,q2,z15 k3,Zv,Zg])|(refine qZm ?_ ?_;simp (config:=qZc) (disch:=first|omega|rfl) only[sB,Za,reduceCtorEq];refine z02 ?_))
 refine qZk (fun k st=>∃tm H' i,st=⟨tm,[],H'⟩/\k=t.sub.length - i/\i<=t.sub.length/\(∀j,j < i->t.sub[j]?=t'.sub[j]?) /\
   tm.get 2=some (.pointer (some ⟨H.next,0,none⟩))/\tm.get 3=some (.pointer (some ⟨H.next+1,0,none⟩))/\tm.get 30=some (.int .i64 t.sub.length)/\tm.get 31=some (.int .i64 (i:Nat)) /\
   H'.get H.next=some (.row (eightT t.kind t.term ta tc a t.sub.length c) 45)/\H'.get (H.next+1)=some (.row (eightT t'.kind t'.term ta' tc' a' t'.sub.length c') 45)/\HX H H') ?_ t.sub.length _ ?_
 ·rintro k st ⟨tm,H',i,rfl,rfl,hi,hc,t2,t3,t30,t31,gp',gq',hx'⟩;have q1:=row8 gp';have q2:=row8 gq';by_cases hlt:i < t.sub.length
  ·have hlt':i < t'.sub.length:=by omega
   obtain⟨b,o,rfl,hld,hr1⟩:=rl.el hlt;obtain⟨b',o',rfl,hld',hr2⟩:=rl'.el hlt';obtain⟨ua,uc,va,vc,hc1⟩:=hr1.eight;obtain⟨ua',uc',va',vc',hc2⟩:=hr2.eight;rw[hc1] at hr1 hld;rw[hc2] at hr2 hld';have hld1:=hx'.load hw hld;have hld2:=hx'.load hw hld'
   repeat' (first|refine qZa ?_|refine qZg ?_|(refine qZe ?_;try simp only[z00])|(refine qZb ?_;simp (config:=qZc) (disch:=first|omega|rfl) only[sB,Za,t30,t31,decl hlt])|(refine qZj [([(0,0),(1,0),(2,0),(3,0),(4,0),(5,0),(6,0),(7,0),(8,0),(9,0)],some 10),([(11,1)],none)] ?_ ?_;kernel_rfl;simp (config:=qZc) (disch:=first|omega|rfl) only[sD,sB,Za,Zb,reduceCtorEq,z29,ld43,ia43,ld45,cl36,t2,t3,q1,q2,hld1,hld2,isAlloc,isRead])|(refine qZd ?_ ?_;simp (config:=qZc) (disch:=first|omega|rfl) only[sB];refine z02 ?_))
   have hb:=hx'.bump 12;have hs:=t.size _ (Zu hlt);refine(ih (t:=t.sub[i]) (t':=t'.sub[i]) (by omega) (hr1.mono hb hw) (hr2.mono hb hw) hb.wf).mono ?_;rintro v H4 ⟨rfl,hx4⟩;have hx5:=hb.trans hx4;by_cases he:t.sub[i]=t'.sub[i]
   ·repeat' (first|(refine qZe ?_;try simp only[sA])|(refine qZb ?_;simp (config:=qZc) (disch:=first|omega|rfl) only[sB,Za,t31,z0c])|(refine z0p ?_;simp (config:=qZc) (disch:=first|omega|rfl) only[sD,sB,Za,zn7 he,Zv,isAlloc,isRead])|(refine qZm ?_ ?_;simp (config:=qZc) (disch:=first|omega|rfl) only[sB,Za];refine z02 ?_))
    refine⟨t.sub.length - (i+1),by omega,_,_,i+1,rfl,rfl,by omega,fun j hj=>?_,(by simp only[sG,Za,t2]),(by simp only[sG,Za,t3]),(by simp only[sG,Za,t30]),(by simp only[sB,Za];rfl),hx4.get hb.wf gp',hx4.get hb.wf gq',hx5⟩;by_cases hji:j=i
    ·subst hji;rw[Zc hlt,Zc hlt',he]
    ·exact hc j (by omega)
   ·repeat' (first|refine qZa ?_|(refine qZf ?_;try simp only[z06,z01])|(refine qZb ?_;simp (config:=qZc) (disch:=first|omega|rfl) only[sA])|(refine z0p ?_;simp (config:=qZc) (disch:=first|omega|rfl) only[sD,sB,Za,zfj he,ZM,isAlloc,isRead])|(refine qZd ?_ ?_;simp (config:=qZc) (disch:=first|omega|rfl) only[sB,Za];refine z02 ?_))
    refine z03 rfl (by simp only[sB,Za];rfl) ⟨?_,hx5⟩;rw[zfj];rintro rfl;exact he rfl
  ·repeat' (first|refine qZa ?_|(refine qZi ?_;try simp only[sB])|(refine qZf ?_)|(refine qZb ?_;simp (config:=qZc) (disch:=first|omega|rfl) only[sA,t30,t31,decn hlt])|(refine qZm ?_ ?_;simp (config:=qZc) (disch:=first|omega|rfl) only[sB];refine z02 ?_))
   refine z03 rfl (by simp only[sB,Za];rfl) ⟨?_,hx'⟩;rw[zn7];refine zt4 k1 k2 (List.ext_getElem? fun j=>?_);by_cases hj:j < i
   ·exact hc j hj
   ·rw[Zy (by omega),Zy (by omega)]
 ·exact⟨_,_,0,rfl,rfl,by omega,by omega,(by simp only[sG,Za,reduceCtorEq]),(by simp only[sG,Za,reduceCtorEq]),(by simp only[sG,Za,reduceCtorEq]),(by simp only[sB,Za,reduceCtorEq];rfl),gp3,gq3,hx⟩
def RStripEnd (H0 H:Heap) (R:ByteArray × Tm × Er) (v:Value) (H':Heap):Prop:=HX H H'/\∃a c sd,v=.tuple ⟨[.string R.1,.agg ⟨six R.2.1 a c⟩,.agg ⟨sd⟩]⟩/\RepT H0 R.2.1 (six R.2.1 a c)/\RSaid H' (Rg H.next H'.next) R.2.2 sd/\checkS R.2.1=0
end Go.Proofs.hq
end

section
namespace Go.Hb
open Go Go.RowKit
structure RdI (H:Heap) (L:List Int) (a:Option Addr) (c:Nat):Prop where
 len:L.length<=c
 cap:c<=maxLen
 get:∀(i:Nat) (h:i < L.length),∃b o,a=some ⟨b,o,none⟩/\H.load ⟨b,o+i,none⟩ 1=some [.int .i64 L[i]]
theorem RdI.max {H:Heap}{L:List Int}{a:Option Addr}{c:Nat}(h:RdI H L a c):L.length<=9223372036854775807:=Zj h.len h.cap
end Go.Hb
namespace Go.Proofs.hq
open Go Go.RowKit Go.Hb
variable {ok:Ok}
set_option maxRecDepth 10000
attribute [local irreducible] LX LG EL STG SOP SGO SGD SAL SRD SEF SEG SLK SCK ES
theorem IntL.rd {H:Heap}{T:TypeId}{S:Nat->Prop}{L:List Int}{v:Value}(h:IntL H T S L v):∃a c,v=.slice a L.length c/\RdI H L a c/\(∀b o,a=some ⟨b,o,none⟩->S b):=by
 rcases h with ⟨rfl,rfl⟩|⟨b,c,rfl,h2,h3,h4,h5⟩
 ·exact⟨none,0,rfl,⟨Ze _,Zl _,fun i h=>by simp at h⟩,fun b o h=>by cases h⟩
 ·refine⟨_,c,rfl,⟨h2,h3,fun i hi=>⟨b,0,rfl,?_⟩⟩,fun b' o h=>by cases h;exact h5⟩;unfold Heap.load Heap.cells;simp only[h4,ZP];have:(List.drop i (L.map fun n=>Value.int .i64 n)).take 1=[.int .i64 L[i]]:=by
   rw[ZG (by simpa using hi)];simp
  rw[this];rfl
theorem zvu {L:List Int}{n:Int}{a:Option Addr}{c:Nat}{H:Heap}(h:RdI H L a c):EvF Tryz.prog okT 7 [.slice a L.length c,.int .i64 n] H fun v H'=>v=.bool (decide (n∈L))/\H'=H:=by
 have hm:=h.max;refine EvF.enter rfl Tryz.func7 (by decide) rfl ?_
 repeat' (first|refine qZa ?_|refine qZg ?_|(refine qZb ?_;simp (config:=qZc) (disch:=first|omega|rfl) only[sA,initTm]))
 refine qZk (fun k st=>∃tm i,st=⟨tm,[],H⟩/\k=L.length - i/\i<=L.length/\n∉L.take i/\tm.get 0=some (.slice a L.length c)/\tm.get 1=some (.int .i64 n)/\tm.get 5=some (.int .i64 (i:Nat))) ?_ L.length _ ?_
 ·rintro k st ⟨tm,i,rfl,rfl,hi,hn,t0,t1,t5⟩;by_cases hlt:i < L.length
  ·obtain⟨b,o,rfl,hl⟩:=h.get i hlt;by_cases he:L[i]=n
   ·repeat' (first|refine qZa ?_|refine qZg ?_|(refine qZe ?_;try simp only[z00])|(refine qZf ?_;try simp only[z06,z01])|(refine qZb ?_;simp (config:=qZc) (disch:=first|omega|rfl) only[sB,Za,reduceCtorEq,ln32,ia32,ld3,t0,t1,t5,decl hlt,hl,z0l he])|(refine qZd ?_ ?_;simp (config:=qZc) (disch:=first|omega|rfl) only[sB,Za];refine z02 ?_))
    exact z03 rfl (by simp only[sB,Za];rfl) ⟨by rw[decide_eq_true (he ▸ Zu _)],rfl⟩
   ·repeat' (first|refine qZa ?_|refine qZg ?_|(refine qZe ?_;try simp only[sA])|(refine qZb ?_;simp (config:=qZc) (disch:=first|omega|rfl) only[sB,Za,reduceCtorEq,ln32,ia32,ld3,t0,t1,t5,decl hlt,hl,z0g he,z0c])|(refine qZd ?_ ?_;simp (config:=qZc) (disch:=first|omega|rfl) only[sB,Za];refine z02 ?_)|(refine qZm ?_ ?_;simp (config:=qZc) (disch:=first|omega|rfl) only[sB,Za];refine z02 ?_))
    refine⟨L.length - (i+1),by omega,_,i+1,rfl,rfl,by omega,?_,(by simp only[sG,reduceCtorEq,t0]),(by simp only[sG,Za,t1]),(by simp only[sB,Za];rfl)⟩;rw[<-List.take_append_getElem hlt,List.mem_append];rintro (h1|h1)
    ·exact hn h1
    ·simp at h1;exact he h1.symm
  ·repeat' (first|refine qZa ?_|(refine qZi ?_;try simp only[sB])|(refine qZf ?_)|(refine qZb ?_;simp (config:=qZc) (disch:=first|omega|rfl) only[sB,Za,reduceCtorEq,ln32,t0,t5,decn hlt])|(refine qZm ?_ ?_;simp (config:=qZc) (disch:=first|omega|rfl) only[sB,Za];refine z02 ?_))
   rw[Zm (by omega)] at hn;exact z03 rfl (by simp only[sB,Za];rfl) ⟨by rw[decide_eq_false hn],rfl⟩
 ·exact⟨_,0,rfl,rfl,by omega,by simp,(by simp only[sG,reduceCtorEq]),(by simp only[sG,Za,reduceCtorEq]),(by simp only[sB,Za,reduceCtorEq];rfl)⟩
end Go.Proofs.hq
end

section
namespace Go.Hb
open Go Go.RowKit
structure RepBs (H:Heap) (B:List (Int × Tm)) (a:Option Addr) (c:Nat):Prop where
 len:B.length<=c
 cap:c<=maxLen
 el:∀(i:Nat) (h:i < B.length),∃b o a' c',a=some ⟨b,o,none⟩/\H.load ⟨b,o+i*7,none⟩ 1=some [.int .i64 B[i].1]/\H.load ⟨b,o+i*7+1,none⟩ 6=some (six B[i].2 a' c')/\RepT H B[i].2 (six B[i].2 a' c')
theorem RepBs.max {H:Heap}{B:List (Int × Tm)}{a:Option Addr}{c:Nat}(h:RepBs H B a c):B.length<=9223372036854775807:=Zj h.len h.cap
theorem RepBs.mono {H H':Heap}{B:List (Int × Tm)}{a:Option Addr}{c:Nat}(h:RepBs H B a c) (hx:HX H H') (hw:H.wf):RepBs H' B a c :=
 ⟨h.len,h.cap,fun i hi=>let ⟨b,o,a',c',e,l1,l2,r⟩:=h.el i hi;⟨b,o,a',c',e,hx.load hw l1,hx.load hw l2,r.mono hx hw⟩⟩
end Go.Hb
namespace Go.Proofs.hq
open Go Go.RowKit Go.Hb
variable {ok:Ok}
set_option maxRecDepth 10000
attribute [local irreducible] LX LG EL STG SOP SGO SGD SAL SRD SEF SEG SLK SCK ES
end Go.Proofs.hq
end

section
namespace Go.Hb
open Go Go.RowKit
end Go.Hb
namespace Go.Proofs.hq
open Go Go.RowKit Go.Hb
variable {ok:Ok}
set_option maxRecDepth 10000
attribute [local irreducible] LX LG EL STG SOP SGO SGD SAL SRD SEF SEG SLK SCK ES
end Go.Proofs.hq
end

section
namespace Go.Proofs.hq
open Go Go.RowKit Go.Hb
variable {ok:Ok}
set_option maxRecDepth 10000
attribute [local irreducible] LX LG EL STG SOP SGO SGD SAL SRD SEF SEG SLK SCK ES
abbrev bindC (n:Int) (i:Nat):List Value:=[.int .i64 n,.int .i64 1,.string Zd,.string Zd,.int .u64 0,.int .i64 (i:Nat),.slice none 0 0]
def cellsB:List Int->Nat->List Value
 |[],_=>[]
 |n :: L,i=>bindC n i++cellsB L (i+1)
def bndsB:List Int->Nat->List (Int × Tm)
 |[],_=>[]
 |n :: L,i=>(n,varT (i:Nat)) :: bndsB L (i+1)
theorem zaz:∀(L:List Int) (i:Nat),(cellsB L i).length=L.length*7
 |[],i=>rfl
 |n :: L,i=>by
  have h7:(bindC n i).length=7:=rfl;rw[cellsB,Zr,zaz L (i+1),h7,show (n :: L).length=L.length+1 from rfl];omega
theorem z4u:∀(L:List Int) (i:Nat),(bndsB L i).length=L.length
 |[],i=>rfl
 |n :: L,i=>by rw[bndsB,ZD,z4u L (i+1),ZD]
theorem z9l (n:Int):∀(L:List Int) (i:Nat),cellsB (L++[n]) i=cellsB L i++bindC n (i+L.length)
 |[],i=>by rw[List.nil_append,cellsB,cellsB,cellsB];rfl
 |m :: L,i=>by
  rw[List.cons_append,cellsB,z9l n L (i+1),cellsB,List.append_assoc,ZD,show i+1+L.length=i+(L.length+1) by omega]
theorem z9m:∀(L:List Int) (i:Nat),(cellsB L i).all one=true
 |[],i=>rfl
 |n :: L,i=>by rw[cellsB,List.all_append,z9m L (i+1)];rfl
theorem zeb:∀(L:List Int) (i j:Nat) (h:j < L.length),((cellsB L i).drop (j*7)).take 7=bindC L[j] (i+j)
 |[],_,_,h=>by simp at h
 |n :: L,i,0,_=>by
  rw[cellsB,ZK,List.drop_zero,List.take_append_of_le_length (by simp)];rfl
 |n :: L,i,j+1,h=>by
  have h7:(bindC n i).length=7:=rfl;rw[cellsB,Nat.succ_mul,Nat.add_comm (j*7) 7,<-List.drop_drop,List.drop_left' h7,zeb L (i+1) j (by simpa using h)];simp only[List.getElem_cons_succ];rw[show i+1+j=i+(j+1) by omega]
theorem zhv:∀(L:List Int) (i j:Nat) (h:j < (bndsB L i).length) (h':j < L.length),(bndsB L i)[j]=(L[j],varT ((i+j:Nat):Int))
 |[],_,_,_,h=>by simp at h
 |n :: L,i,0,_,_=>rfl
 |n :: L,i,j+1,h,h'=>by
  have:=zhv L (i+1) j (by rw[z4u];simpa using h') (by simpa using h');simp only[bndsB,List.getElem_cons_succ];rw[this,show i+1+j=i+(j+1) by omega]
def BnL (H:Heap) (S:Nat->Prop) (L:List Int) (v:Value):Prop :=
 (L=[]/\v=.slice none 0 0)\/∃b c,v=.slice (some ⟨b,0,none⟩) L.length c/\L.length<=c/\c<=maxLen/\H.get b=some (.row (cellsB L 0) 114)/\S b
theorem BnL.rep {H:Heap}{S:Nat->Prop}{L:List Int}{v:Value}(h:BnL H S L v) (hL:L.length<=most):∃a c,v=.slice a (bndsB L 0).length c/\RepBs H (bndsB L 0) a c:=by
 have hms:most<=9223372036854775807:=by simp [most]
 rcases h with ⟨rfl,rfl⟩|⟨b,c,rfl,h1,h2,h3,h4⟩
 ·exact⟨none,0,rfl,Ze _,Zl _,fun i hi=>by simp [bndsB] at hi⟩
 ·refine⟨_,c,by rw[z4u],by rw[z4u];exact h1,h2,fun i hi=>?_⟩;have hi':i < L.length:=by rw[z4u] at hi;exact hi
  have hat:=zhv L 0 i hi hi';have hc:=zeb L 0 i hi';rw[ZP] at hat hc;have c1:((cellsB L 0).drop (i*7)).take 1=[.int .i64 L[i]]:=by
   have:=congrArg (List.take 1) hc;rw[List.take_take] at this;exact this
  have c6:((cellsB L 0).drop (i*7+1)).take 6=six (varT (i:Nat)) none 0:=by
   have:=congrArg (fun x=>(x.drop 1)) hc;simp only[List.drop_take,List.drop_drop] at this;exact this
  rw[hat];refine⟨b,0,none,0,rfl,?_,?_,zm8 ⟨by omega,by omega⟩⟩
  ·unfold Heap.load Heap.cells;simp only[h3,ZP,c1];rfl
  ·unfold Heap.load Heap.cells;simp only[h3,ZP,c6];rfl
theorem BnL.push {H:Heap}{S S2:Nat->Prop}{L:List Int}{n:Int}{v:Value}{ad:Addr}{c1:Nat}(h:BnL H S L v) (hw:H.wf) (hl:H.load ad (1*7)=some (bindC n L.length)) (hm:L.length+1<=most) (h2:S2 H.next) :
  ∃H2 v2,dAp Tryz.prog #[111,111] v (.slice (some ad) 1 c1) H=some (.val v2 H2)/\BnL H2 S2 (L++[n]) v2/\HK S H H2/\H2.next=H.next+1:=by
 have hp:apOk Tryz.prog 111 114 7:=z3j (by kernel_rfl);have hmax:L.length+1<=maxLen:=Zj hm (by simp [most,maxLen]);have hcl:=zaz L 0;rcases h with ⟨rfl,rfl⟩|⟨b,c,rfl,hlc,hcm,hg,hs⟩
 ·exact⟨_,_,z47 hp (by omega) hm hl rfl,.inr ⟨H.next,1,rfl,Ze _,hmax,z0n,h2⟩,((HX.refl hw).new _).hk _,rfl⟩
 ·refine⟨_,_,z3k hp (by omega) hm hl rfl hg (by omega) (by rw[Zm (by omega)];exact z9m L 0),.inr ⟨H.next,L.length+1,by simp,by simp,hmax,?_,h2⟩,((HK.refl hw).put (.inl hs) (hw _ _ hg) none).new _,rfl⟩;show ((H.put b none).new _).get (H.put b none).next=_;rw[z0n,Zm (by omega),z9l,ZP]
theorem BnL.heap {H H':Heap}{S:Nat->Prop}{L:List Int}{v:Value}(h:BnL H S L v) (hk:∀n,S n->n < H.next->H'.get n=H.get n) (hw:H.wf):BnL H' S L v:=by
 rcases h with h|⟨b,c,h1,h2,h3,h4,h5⟩
 ·exact .inl h
 ·exact .inr ⟨b,c,h1,h2,h3,(hk b h5 (hw _ _ h4)).trans h4,h5⟩
theorem BnL.slice {H:Heap}{S:Nat->Prop}{L:List Int}{v:Value}(h:BnL H S L v):∃a c,v=.slice a L.length c:=by
 rcases h with ⟨rfl,rfl⟩|⟨b,c,rfl,-⟩
 ·exact⟨none,0,rfl⟩
 ·exact⟨_,c,rfl⟩
def RReadEnd (H:Heap) (R:ByteArray × Cls × Er) (v:Value) (H':Heap):Prop:=HX H H'/\∃cs sd,v=.tuple ⟨[.string R.1,.agg ⟨cs⟩,.agg ⟨sd⟩]⟩/\RepC H' (Rg H.next H'.next) R.2.1 cs/\RSaid H' (Rg H.next H'.next) R.2.2 sd
theorem Good.of {b:Bdy}(h:(readyS (toldB b)).2=.ok) (e:(readyS (toldB b)).1=b):Good b:=by
 have:=zjk h
 rwa [e] at this
theorem Good.szF {b:Bdy}(h:Good b):szF b 0<=20000:=by
 have:=h.size;have:=zr5 _ b 0 (Zf _);omega
noncomputable def termV (b:Bdy):Tm:=open Classical in if Good b then toldB b else zeroT
noncomputable def termE (b:Bdy):Int:=open Classical in if Good b then 0 else 1
set_option maxHeartbeats 8000000 in
theorem zpe {b:Bdy}{cs:List Value}{H:Heap}(hf:FewB 1000000 b) (r:RepB H b cs) (hw:H.wf) :
  EvF Tryz.prog okT 32 [.agg ⟨cs⟩] H fun v H'=>HX H H'/\∃out,v=.tuple ⟨[.agg ⟨out⟩,.int .i64 (termE b)]⟩/\OT H' (Rg H.next H'.next) (termV b) out:=by
 have fin:∀{H':Heap},¬Good b->HX H H'->HX H H'/\∃out,Value.tuple ⟨[.agg ⟨six zeroT none 0⟩,.int .i64 1]⟩=.tuple ⟨[.agg ⟨out⟩,.int .i64 (termE b)]⟩/\OT H' (Rg H.next H'.next) (termV b) out:=fun hn hx=>⟨hx,_,by rw[termE,if_neg hn],by rw[termV,if_neg hn];exact⟨RepS.leaf zbv rfl (Zl _) fun _=>rfl,.inl rfl⟩⟩
 obtain⟨ta,tc,a,c,rfl⟩:=r.eight;refine EvF.enter rfl Tryz.func32 (by decide) rfl ?_;(repeat refine qZa ?_);refine qZb ?_;simp (config:=qZc) (disch:=first|omega|rfl) only[sB,initTm,dBox,dAlloc,Value.cells,one,zr28];obtain⟨H2,e2,hx2,g1,g2,hn2,hw2⟩:=new2 hw (.row (eightT b.kind b.term ta tc a b.sub.length c) 45) (.row zero6 28);simp only[e2];clear e2;have q1:=row8 g1;(repeat refine qZa ?_);refine qZb ?_;simp (config:=qZc) (disch:=first|omega|rfl) only[sB,Za,reduceCtorEq,ld45,cl58,q1];refine(zn6 (n:=0) (Zf _) (r.mono hx2 hw) (by decide) hw2).mono ?_;rintro v H3 ⟨hx3,rfl⟩;have g1:=hx3.get hw2 g1;have g2:=hx3.get hw2 g2;have hx:=hx2.trans hx3;have w3:=hx.wf;have q1:=row8 g1;(try simp (config:=qZc) (disch:=first|omega|rfl) only[sA]);by_cases hs:20000 < szF b 0
 ·have hd:decide (((szF b 0:Nat):Int) > 20000)=true:=decide_eq_true (by omega)
  repeat' (first|refine qZa ?_|(refine qZf ?_;try simp only[z06,z01])|(refine qZb ?_;simp (config:=qZc) (disch:=first|omega|rfl) only[sB,Za,Zb,Value.cells,one,reduceCtorEq,layC,bd28,st28,hd,g2])|(refine qZd ?_ ?_;simp (config:=qZc) (disch:=first|omega|rfl) only[sB,Za,reduceCtorEq,hd];refine z02 ?_))
  exact z0e rfl (by simp only[sB,Za,reduceCtorEq];rfl) (by simp only[sB,Zb,cutC,ld28];rfl) (by simp only[sG,Za,reduceCtorEq]) (fin (fun h=>absurd h.szF (by omega)) (hx.pt (i:=H.next+1) (by omega) g2 _))
 have hd:decide (((szF b 0:Nat):Int) > 20000)=false:=decide_eq_false (by omega);refine qZm (by simp (config:=qZc) (disch:=first|omega|rfl) only[sB,Za,reduceCtorEq,hd]) ?_;(try refine qZe ?_);(try simp only[z00,z04]);(repeat refine qZa ?_);refine qZb ?_;simp (config:=qZc) (disch:=first|omega|rfl) only[sB,dAlloc,Za,reduceCtorEq,zr28,ld45,cl53,q1];have r3:=r.mono hx hw;refine(zc0 (Zf _) (r3.bi w3) hf (fun n hn=>hn) w3).mono ?_;rintro v H4 ⟨hx4,out,rfl,hrT⟩;obtain⟨ao,co,cellso,rfl,-⟩:=hrT.rep.six;have w4:=hx4.wf;have g1:=hx4.get w3 g1;have g2:=hx4.get w3 g2;(try simp (config:=qZc) (disch:=first|omega|rfl) only[sB,Zb,one,st28]);obtain⟨H5,e5,hx5,g4,hn5,w5⟩:=z0m w4 (.row zero6 28) (.row (six (toldB b) ao co) 28);simp only[e5];clear e5;have g1:=hx5.get w4 g1;have g2:=hx5.get w4 g2;have q4:=row6 g4;have rt5:RepT H5 (toldB b) _:=hrT.rep.mono hx5 w4;(repeat refine qZa ?_);refine qZb ?_;simp (config:=qZc) (disch:=first|omega|rfl) only[sB,Za,reduceCtorEq,ld28,cl52,q4];refine(z9g rt5 w5).mono ?_
 rintro v H6 ⟨hx6,outB,ev,rfl,hoB,heB⟩;obtain⟨bta,btc,bsa,bsc,rfl⟩:=hoB.rep.eight;have w6:=hx6.wf;have g1:=hx6.get w5 g1;have g2:=hx6.get w5 g2;have g4:=hx6.get w5 g4;(try simp (config:=qZc) (disch:=first|omega|rfl) only[sB,dAlloc,Za,Zb,one,reduceCtorEq,zr45,st45]);obtain⟨H7,e7,hx7,g5,hn7,w7⟩:=z0m w6 (.row zero8 45) (.row (eightT (readyS (toldB b)).1.kind (readyS (toldB b)).1.term bta btc bsa (readyS (toldB b)).1.sub.length bsc) 45);simp only[e7];clear e7;have g1:=hx7.get w6 g1;have g2:=hx7.get w6 g2;have g4:=hx7.get w6 g4;have q1:=row8 g1;have q5:=row8 g5;have k57:=hx6.trans hx7;have k37:=(hx4.trans hx5).trans k57;by_cases hok:(readyS (toldB b)).2=.ok;rotate_left
 ·obtain⟨T0,x0,rfl⟩:=heB.rep.some hok
  repeat' (first|refine qZa ?_|(refine qZf ?_;try simp only[z06,z01])|(refine qZb ?_;simp (config:=qZc) (disch:=first|omega|rfl) only[sB,Za,Zb,Value.cells,one,reduceCtorEq,layC,bd28,st28,ze4,g2])|(refine qZd ?_ ?_;simp (config:=qZc) (disch:=first|omega|rfl) only[sB,Za,reduceCtorEq];refine z02 ?_))
  exact z0e rfl (by simp only[sB,Za,reduceCtorEq];rfl) (by simp only[sB,Zb,cutC,ld28];rfl) (by simp only[sG,Za,reduceCtorEq]) (fin (fun h=>hok (by rw[h.ready])) ((hx.trans k37).pt (i:=H.next+1) (by omega) g2 _))
 rw[hok] at heB;obtain rfl:ev=.nilIface:=heB.rep;(repeat refine qZa ?_);refine qZb ?_;simp (config:=qZc) (disch:=first|omega|rfl) only[sB,Za,reduceCtorEq,ld45,cl36,zax,q1,q5];refine(z6z (Zf _) (hoB.rep.mono hx7 w6) (r3.mono k37 w3) w7).mono ?_;rintro v H8 ⟨rfl,hx8⟩;have g2:=hx8.get w7 g2;have g4:=hx8.get w7 g4;have q4:=row6 g4;have w8:=hx8.wf;have k58:=k57.trans hx8;by_cases heq:(readyS (toldB b)).1=b;rotate_left
 ·repeat' (first|refine qZa ?_|(refine qZf ?_;try simp only[z06,z01])|(refine qZb ?_;simp (config:=qZc) (disch:=first|omega|rfl) only[sB,Za,Zb,Value.cells,one,reduceCtorEq,layC,bd28,st28,g2])|(refine z0q ?_;simp (config:=qZc) (disch:=first|omega|rfl) only[sB,Za,reduceCtorEq,zfj heq,ZM])|(refine qZd ?_ ?_;simp (config:=qZc) (disch:=first|omega|rfl) only[sB,Za,reduceCtorEq];refine z02 ?_))
  exact z0e rfl (by simp only[sB,Za,reduceCtorEq];rfl) (by simp only[sB,Zb,cutC,ld28];rfl) (by simp only[sG,Za,reduceCtorEq]) (fin (fun h=>heq (by rw[h.ready])) (((hx.trans k37).trans hx8).pt (i:=H.next+1) (by omega) g2 _))
 have hg:=Good.of hok heq
 repeat' (first|refine qZa ?_|(refine qZe ?_;try simp only[z00])|(refine qZb ?_;simp (config:=qZc) (disch:=first|omega|rfl) only[sB,Za,reduceCtorEq,ld28,cl59,q4])|(refine z0q ?_;simp (config:=qZc) (disch:=first|omega|rfl) only[sB,Za,reduceCtorEq,zn7 heq,Zv,Zg])|(refine qZm ?_ ?_;simp (config:=qZc) (disch:=first|omega|rfl) only[sB,Za,reduceCtorEq];refine z02 ?_))
 refine(zbx (rt5.mono k58 w5) hg.check w8).mono ?_;rintro v H9 ⟨hx9,outO,rfl,hot⟩;obtain⟨a9,c9,zh8,rfl,-⟩:=hot.rep.six;have g2:=hx9.get w8 g2;have k39:=(k37.trans hx8).trans hx9;have hx9':=hx.trans k39;have n3:=hx3.next;have n8:=(k37.trans hx8).next
 repeat' (first|(refine qZf ?_)|(refine z0q ?_;simp (config:=qZc) (disch:=first|omega|rfl) only[sB,Zb,one,st28,g2]))
 have hz:=hx9'.pt (i:=H.next+1) (by omega) g2 (some (.row (six (toldB b) a9 c9) 28));refine z0e rfl (by simp only[sB,Za,reduceCtorEq];rfl) (by simp only[sB,Zb,cutC,ld28];rfl) (by simp only[sB,Za,reduceCtorEq];rfl) ⟨hz,_,by rw[termE,if_pos hg],?_⟩;rw[termV,if_pos hg];refine hot.to fun n hn hl=>?_
 have a1:=hn.1;exact⟨by rw[get_put,if_neg (by omega)],⟨by omega,by rw[z07];exact hl⟩,by rw[z07];exact hl⟩
theorem RepT.whole {H:Heap}{c:Cls}{b:Nat}{a1 a2:Option Addr}{c1 c2:Nat}(hw:H.wf) (r1:RepT H c.head (six c.head a1 c1)) (r2:RepT H (toldB c.body) (six (toldB c.body) a2 c2)) (g:H.get b=some (.row (six c.head a1 c1++six (toldB c.body) a2 c2) 28)) :
  RepT H (wholeC c) (six (wholeC c) (some ⟨b,0,none⟩) 2):=(z6u (S:=fun n=>n < H.next) (by decide) g (hw _ _ g) hw (RepT.toS hw r1) (RepT.toS hw r2)).rep
noncomputable def checkC (c:Cls):Int:=open Classical in if Good c.body/\checkS c.head=0 then (if 400 < cnt c.head 0+cnt (toldB c.body) 0 then 110 else if GoodC c then 0 else 1) else 1
theorem GoodC.le {c:Cls}(h:GoodC c):¬ 400 < cnt c.head 0+cnt (toldB c.body) 0:=by
 have cc1:=z9k c.head;have cc2:=z9k (toldB c.body);have hf:=h.few;omega
theorem GoodC.chk {c:Cls}(h:GoodC c):checkC c=0:=by
 unfold checkC;rw[if_pos ⟨h.good,h.head⟩,if_neg h.le,if_pos h]
theorem z9n {c:Cls}(h:checkC c=0):GoodC c:=by
 unfold checkC at h;split at h
 ·split at h
  ·cases h
  ·split at h
   ·assumption
   ·cases h
 ·cases h
theorem zjn {c:Cls}(h:¬Good c.body):checkC c=1:=by unfold checkC;rw[if_neg fun q=>h q.1]
theorem zfk {c:Cls}(h:checkS c.head≠0):checkC c=1:=by unfold checkC;rw[if_neg fun q=>h q.2]
theorem zjo {c:Cls}(h1:Good c.body) (h2:checkS c.head=0) (h:400 < cnt c.head 0+cnt (toldB c.body) 0):checkC c=110:=by unfold checkC;rw[if_pos ⟨h1,h2⟩,if_pos h]
theorem z4v {c d:Cls}{m:ByteArray}{e:Er}(h1:Good c.body) (h2:checkS c.head=0) (h3:¬ 400 < cnt c.head 0+cnt (toldB c.body) 0) (hR:readS Zd (wholeC c)=(m,d,e)) (hn:¬(e=.ok/\d=c/\m=Zd)):checkC c=1:=by
 unfold checkC;rw[if_pos ⟨h1,h2⟩,if_neg h3,if_neg fun hg=>hn ?_];have:=hg.read Zd;rw[hR] at this;cases this;exact⟨rfl,rfl,rfl⟩
set_option maxHeartbeats 8000000 in
theorem zjp {c:Cls}{cs:List Value}{H:Heap}(hf:FewB 1000000 c.body) (r:RdC H c cs) (hw:H.wf) :
  EvF Tryz.prog okT 13 [.agg ⟨cs⟩] H fun v H'=>v=.int .i64 (checkC c)/\HX H H':=by
 obtain⟨ha,hc,ta,tc,a,k,rfl,rh,rb⟩:=r;refine EvF.enter rfl Tryz.func13 (by decide) rfl ?_;(repeat refine qZa ?_);refine qZb ?_;simp (config:=qZc) (disch:=first|omega|rfl) only[sB,initTm,dBox,Value.cells,one];obtain⟨H2,e2,hx2,g1,hn2,hw2⟩:=new1 hw (.row (fift c.head ha hc c.body.kind c.body.term ta tc a c.body.sub.length k c.vars) 47);simp only[e2];clear e2;have q1:=z26 g1;(repeat refine qZa ?_);refine qZb ?_;simp (config:=qZc) (disch:=first|omega|rfl) only[sB,Za,reduceCtorEq,zgx,ld45,cl32,q1];refine(zpe hf (rb.mono hx2 hw) hw2).mono ?_;rintro v H3 ⟨hx3,out,rfl,hot⟩;obtain⟨ao,co,cellso,rfl,-⟩:=hot.rep.six;have w3:=hx3.wf;have n3:=hx3.next;(try simp (config:=qZc) (disch:=first|omega|rfl) only[sB,dAlloc,Za,Zb,one,reduceCtorEq,zr28,st28]);obtain⟨H4,e4,hx4,g3,hn4,w4⟩:=z0m w3 (.row zero6 28) (.row (six (termV c.body) ao co) 28);simp only[e4];clear e4;by_cases hg:Good c.body;rotate_left
 ·have hE:termE c.body≠0:=by rw[termE,if_neg hg];decide
  repeat' (first|refine qZa ?_|(refine qZf ?_;try simp only[z06,z01])|(refine qZb ?_;simp (config:=qZc) (disch:=first|omega|rfl) only[sB,Za,reduceCtorEq,z1z hE])|(refine qZd ?_ ?_;simp (config:=qZc) (disch:=first|omega|rfl) only[sB,Za,reduceCtorEq];refine z02 ?_))
  exact z03 rfl (by simp only[sB,Za,reduceCtorEq];rfl) ⟨by rw[zjn hg],(hx2.trans hx3).trans hx4⟩
 have hE:termE c.body=0:=by rw[termE,if_pos hg]
 have hV:termV c.body=toldB c.body:=by rw[termV,if_pos hg]
 rw[hV] at hot g3;have hx24:=hx3.trans hx4;have hx:=hx2.trans hx24;have g1:=hx24.get hw2 g1;have q1:=z26 g1;have rt4:=hot.rep.mono hx4 w3;(repeat refine qZa ?_);refine qZb ?_;simp (config:=qZc) (disch:=first|omega|rfl) only[sB,Za,reduceCtorEq,z4f,ld28,cl18,z15 hE,q1];refine(z25 _ _ _ (rh.mono hx hw) w4).mono ?_;rintro v H5 ⟨rfl,hx5⟩;have g1:=hx5.get w4 g1;have g3:=hx5.get w4 g3;have q1:=z26 g1;have q3:=row6 g3;have hx':=hx.trans hx5;have w5:=hx5.wf;by_cases hh:checkS c.head=0;rotate_left
 ·repeat' (first|refine qZa ?_|(refine qZf ?_;try simp only[z06,z01])|(refine qZb ?_;simp (config:=qZc) (disch:=first|omega|rfl) only[sA])|(refine z0q ?_;simp (config:=qZc) (disch:=first|omega|rfl) only[sB,Za,reduceCtorEq,z1z hh])|(refine qZd ?_ ?_;simp (config:=qZc) (disch:=first|omega|rfl) only[sB,Za,reduceCtorEq];refine z02 ?_))
  exact z03 rfl (by simp only[sB,Za,reduceCtorEq];rfl) ⟨by rw[zfk hh],hx'⟩
 (try simp (config:=qZc) (disch:=first|omega|rfl) only[sB,Za,reduceCtorEq,z15 hh]);refine qZm (by simp (config:=qZc) (disch:=first|omega|rfl) only[sB,Za,reduceCtorEq]) ?_;(try refine qZe ?_);(try simp only[z00,z04])
 (repeat refine qZa ?_);refine qZj [([(0,0),(1,0)],some 2),([(3,0)],some 4),([(5,2),(6,2)],none)] (by kernel_rfl) ?_;simp (config:=qZc) (disch:=first|omega|rfl) only[sD,sB,Za,Zb,reduceCtorEq,z4f,ld28,cl33,isAlloc,isRead,q1];have hb:HX H5 ⟨H5.next+7,H5.t⟩:=(HX.refl w5).bump 7;refine(z1j _ _ _ ((rh.mono hx' hw).mono hb w5) hb.wf).mono ?_;rintro v H6 ⟨rfl,hx6⟩;have k56:=hb.trans hx6;have q36:=row6 (k56.get w5 g3)
 repeat' (first|(refine z0p ?_;simp (config:=qZc) (disch:=first|omega|rfl) only[sV,sD,sB,Za,reduceCtorEq,ld28,cl33,q3,q36,isAlloc,isRead]))
 refine(z1j _ _ _ ((rt4.mono hx5 w4).mono k56 w5) hx6.wf).mono ?_;rintro v H7 ⟨rfl,hx7⟩;have k57:=k56.trans hx7;have w7:=hx7.wf;have g1:=k57.get w5 g1;have g3:=k57.get w5 g3;have q1:=z26 g1;have q3:=row6 g3;have hx7':=hx'.trans k57;have cc1:=z4a c.head;have cc2:=z4a (toldB c.body);by_cases h4:400 < cnt c.head 0+cnt (toldB c.body) 0
 ·have hd:decide ((cnt c.head 0:Int)+(cnt (toldB c.body) 0:Int) > 400)=true:=decide_eq_true (by omega)
  repeat' (first|refine qZa ?_|(refine qZf ?_;try simp only[z06,z01])|(refine qZb ?_;simp (config:=qZc) (disch:=first|omega|rfl) only[sA])|(refine z0p ?_;simp (config:=qZc) (disch:=first|omega|rfl) only[sD,sB,Za,Zb,reduceCtorEq,z0c,hd,isAlloc,isRead])|(refine qZd ?_ ?_;simp (config:=qZc) (disch:=first|omega|rfl) only[sB,Za,reduceCtorEq];refine z02 ?_))
  exact z03 rfl (by simp only[sB,Za,reduceCtorEq];rfl) ⟨by rw[zjo hg hh h4],hx7'⟩
 have hd:decide ((cnt c.head 0:Int)+(cnt (toldB c.body) 0:Int) > 400)=false:=decide_eq_false (by omega)
 repeat' (first|refine qZa ?_|(refine qZe ?_;try simp only[z00])|(refine qZb ?_;simp (config:=qZc) (disch:=first|omega|rfl) only[sB,Za,Zb,Value.cells,one,reduceCtorEq,Zq,layC,z4f,ld28,zag,cl34,cl22,q1,q3])|(refine z0p ?_;simp (config:=qZc) (disch:=first|omega|rfl) only[sD,sB,Za,Zb,reduceCtorEq,z0c,hd,isAlloc,isRead])|(refine qZm ?_ ?_;simp (config:=qZc) (disch:=first|omega|rfl) only[sB,Za,reduceCtorEq];refine z02 ?_))
 obtain⟨H8,e8,hx8,g8,hn8,w8⟩:=new1 w7 (.row (six c.head ha hc++six (toldB c.body) ao co) 28);have e8':=e8;simp only[six,List.cons_append,List.nil_append] at e8';simp only[e8'];clear e8 e8';refine(z2p w8).mono ?_;rintro v H9 ⟨rfl,hx9⟩;have w9:=hx9.wf;have k79:=hx8.trans hx9;have hx9':=hx7'.trans k79;have rh9:=rh.mono hx9' hw;have rt9:=((rt4.mono hx5 w4).mono k57 w5).mono k79 w7;have rw9:RepT H9 (wholeC c) (six (wholeC c) (some ⟨H7.next,0,none⟩) 2):=RepT.whole w9 rh9 rt9 (hx9.get w8 g8);refine(zsz (m:=Zd) rw9 w9).mono ?_;obtain⟨⟨m',d,e⟩,hR⟩:∃R,readS Zd (wholeC c)=R:=⟨_,rfl⟩
 rw[hR];rintro v H10 ⟨hx10,csr,ev,rfl,hrc,her⟩;have hrc:RepC H10 (Rg H9.next H10.next) d csr:=hrc;have her:RepES H10 (Rg H9.next H10.next) e ev:=her;obtain⟨ha',hc',ta',tc',a',k',rfl,rh',rb'⟩:=hrc.rd;have w10:=hx10.wf;(try simp (config:=qZc) (disch:=first|omega|rfl) only[sB,dAlloc,Za,Zb,one,reduceCtorEq,zr47,st47]);obtain⟨H11,e11,hx11,g6,hn11,w11⟩:=z0m w10 (.row zero15 47) (.row (fift d.head ha' hc' d.body.kind d.body.term ta' tc' a' d.body.sub.length k' d.vars) 47);simp only[e11];clear e11;have k911:=hx10.trans hx11;have k711:=k79.trans k911;have g1:=k711.get w7 g1;have q1:=z26 g1;have q6:=z26 g6;have hx11':=hx7'.trans k711;by_cases hok:e=.ok;rotate_left
 ·obtain⟨T0,x0,rfl⟩:=her.rep.some hok
  repeat' (first|refine qZa ?_|(refine qZf ?_;try simp only[z06,z01])|(refine qZb ?_;simp (config:=qZc) (disch:=first|omega|rfl) only[sB,Za,reduceCtorEq,ze4])|(refine qZd ?_ ?_;simp (config:=qZc) (disch:=first|omega|rfl) only[sB,Za,reduceCtorEq];refine z02 ?_))
  exact z03 rfl (by simp only[sB,Za,reduceCtorEq];rfl) ⟨by rw[z4v hg hh h4 hR fun q=>hok q.1],hx11'⟩
 subst hok;obtain rfl:ev=.nilIface:=her.rep;by_cases hm:m'=⟨#[]⟩
 rotate_left
 ·have he0:(m'.toList == (⟨#[]⟩:ByteArray).toList)=false:=z5m hm
  repeat' (first|refine qZa ?_|(refine qZf ?_;try simp only[z06,z01])|(refine qZb ?_;simp (config:=qZc) (disch:=first|omega|rfl) only[sB,Za,reduceCtorEq,zax,z10,he0,ZM,Zg])|(refine qZd ?_ ?_;simp (config:=qZc) (disch:=first|omega|rfl) only[sB,Za,reduceCtorEq];refine z02 ?_))
  exact z03 rfl (by simp only[sB,Za,reduceCtorEq];rfl) ⟨by rw[z4v hg hh h4 hR fun q=>hm q.2.2],hx11'⟩
 subst hm;have he0:((⟨#[]⟩:ByteArray).toList == (⟨#[]⟩:ByteArray).toList)=true:=z1a rfl;(repeat refine qZa ?_);refine qZb ?_;simp (config:=qZc) (disch:=first|omega|rfl) only[sB,Za,reduceCtorEq,z4f,ld28,cl35,zax,z10,he0,Zv,q1,q6];refine(zea (Zf _) (rh'.mono hx11 w10) (rh.mono hx11' hw) w11).mono ?_;rintro v H12 ⟨rfl,hx12⟩;have g1:=hx12.get w11 g1;have g6:=hx12.get w11 g6;have q1:=z26 g1;have q6:=z26 g6;have w12:=hx12.wf;by_cases h1:d.head=c.head;rotate_left
 ·repeat' (first|refine qZa ?_|(refine qZf ?_;try simp only[z06,z01])|(refine qZb ?_;simp (config:=qZc) (disch:=first|omega|rfl) only[sA])|(refine z0q ?_;simp (config:=qZc) (disch:=first|omega|rfl) only[sB,Za,reduceCtorEq,z2e h1,ZM])|(refine qZd ?_ ?_;simp (config:=qZc) (disch:=first|omega|rfl) only[sB,Za,reduceCtorEq];refine z02 ?_))
  exact z03 rfl (by simp only[sB,Za,reduceCtorEq];rfl) ⟨by rw[z4v hg hh h4 hR fun q=>h1 (by rw[q.2.1])],hx11'.trans hx12⟩
 (try simp (config:=qZc) (disch:=first|omega|rfl) only[sB,Za,reduceCtorEq,zgx,ld45,cl36,z7v h1,Zv,q1,q6]);refine(z6z (Zf _) ((rb'.mono hx11 w10).mono hx12 w11) ((rb.mono hx11' hw).mono hx12 w11) w12).mono ?_
 rintro v H13 ⟨rfl,hx13⟩;have g1:=hx13.get w12 g1;have g6:=hx13.get w12 g6;have q1:=z26 g1;have q6:=z26 g6;by_cases h2:d.body=c.body;rotate_left
 ·repeat' (first|refine qZa ?_|(refine qZf ?_;try simp only[z06,z01])|(refine qZb ?_;simp (config:=qZc) (disch:=first|omega|rfl) only[sA])|(refine z0q ?_;simp (config:=qZc) (disch:=first|omega|rfl) only[sB,Za,reduceCtorEq,zfj h2,ZM])|(refine qZd ?_ ?_;simp (config:=qZc) (disch:=first|omega|rfl) only[sB,Za,reduceCtorEq];refine z02 ?_))
  exact z03 rfl (by simp only[sB,Za,reduceCtorEq];rfl) ⟨by rw[z4v hg hh h4 hR fun q=>h2 (by rw[q.2.1])],(hx11'.trans hx12).trans hx13⟩
 by_cases h3:d.vars=c.vars;rotate_left
 ·repeat' (first|refine qZa ?_|(refine qZf ?_;try simp only[z06,z01])|(refine qZb ?_;simp (config:=qZc) (disch:=first|omega|rfl) only[sA])|(refine z0q ?_;simp (config:=qZc) (disch:=first|omega|rfl) only[sB,Za,reduceCtorEq,zdd,ld3,zn7 h2,Zv,q1,q6,z1z h3,Zg])|(refine qZd ?_ ?_;simp (config:=qZc) (disch:=first|omega|rfl) only[sB,Za,reduceCtorEq];refine z02 ?_))
  exact z03 rfl (by simp only[sB,Za,reduceCtorEq];rfl) ⟨by rw[z4v hg hh h4 hR fun q=>h3 (by rw[q.2.1])],(hx11'.trans hx12).trans hx13⟩
 repeat' (first|refine qZa ?_|(refine qZe ?_;try simp only[z00])|(refine qZf ?_)|(refine qZb ?_;simp (config:=qZc) (disch:=first|omega|rfl) only[sA])|(refine z0q ?_;simp (config:=qZc) (disch:=first|omega|rfl) only[sB,Za,reduceCtorEq,zdd,ld3,zn7 h2,Zv,q1,q6,z15 h3,Zg])|(refine qZm ?_ ?_;simp (config:=qZc) (disch:=first|omega|rfl) only[sB,Za,reduceCtorEq];refine z02 ?_))
 exact z03 rfl (by simp only[sB,Za,reduceCtorEq];rfl) ⟨by rw[(zt5 h1 h2 h3 ▸ zjm hR:GoodC c).chk],(hx11'.trans hx12).trans hx13⟩
noncomputable def wholeV (c:Cls):Tm:=open Classical in if GoodC c then wholeC c else zeroT
def WholeEnd (H:Heap) (c:Cls) (v:Value) (H':Heap):Prop:=HX H H'/\∃out,v=.tuple ⟨[.agg ⟨out⟩,.int .i64 (checkC c)]⟩/\((¬GoodC c/\out=six zeroT none 0) \/
 (GoodC c/\∃(p:Nat) (a1:Option Addr) (c1:Nat) (a2:Option Addr) (c2:Nat),out=six (wholeC c) (some ⟨p,0,none⟩) 2/\H.next<=p/\p < H'.next/\H'.get p=some (.row (six c.head a1 c1++six (toldB c.body) a2 c2) 28)/\RepS H' (Rg H.next H'.next) (wholeC c) out))
def RdCS (H:Heap) (S:Nat->Prop) (c:Cls) (cs:List Value):Prop:=∃ha hc ta tc a k,cs=fift c.head ha hc c.body.kind c.body.term ta tc a c.body.sub.length k c.vars/\RepT H c.head (six c.head ha hc)/\RepBI H S c.body (eightT c.body.kind c.body.term ta tc a c.body.sub.length k)
theorem RdCS.rd {H:Heap}{S:Nat->Prop}{c:Cls}{cs:List Value}(h:RdCS H S c cs):RdC H c cs:=by
 obtain⟨ha,hc,ta,tc,a,k,h1,h2,h3⟩:=h;exact⟨ha,hc,ta,tc,a,k,h1,h2,h3.rep⟩
theorem RdC.bi {A H:Heap}{c:Cls}{cs:List Value}(h:RdC A c cs) (hx:HX A H) (hw:A.wf):RdCS H (fun n=>n < A.next) c cs:=by
 obtain⟨ha,hc,ta,tc,a,k,h1,h2,h3⟩:=h;exact⟨ha,hc,ta,tc,a,k,h1,h2.mono hx hw,(h3.bi hw).to fun n hn hl=>⟨hx.keep n hl,hn,Zi hl hx.next⟩⟩
def LB (H:Heap) (T:TypeId) (E:Nat->Prop) (l:List Bdy) (a:Option Addr) (c:Nat):Prop :=
 (l=[]/\a=none/\c=0)\/∃(b:Nat) (cells:List Value),a=some ⟨b,0,none⟩/\l.length<=c/\c<=maxLen/\H.get b=some (.row cells T)/\¬E b/\b < H.next/\l.length*8<=cells.length/\∀i u,l[i]?=some u->RepBI H E u ((cells.drop (i*8)).take 8)
section
variable {H H':Heap}{T:TypeId}{E E':Nat->Prop}{l:List Bdy}{a:Option Addr}{c:Nat}
theorem LB.nil:LB H T E [] none 0:=.inl ⟨rfl,rfl,rfl⟩
theorem LB.to (h:LB H T E l a c) (hk:∀n,E n\/a=some ⟨n,0,none⟩->n < H.next->H'.get n=H.get n) (hn:H.next<=H'.next) (hs:∀n,E n->E' n) (hne:∀n,a=some ⟨n,0,none⟩->¬E' n):LB H' T E' l a c:=by
 rcases h with h|⟨b,cells,rfl,h1,h2,h3,h4,h5,h6,h7⟩
 ·exact .inl h
 ·exact .inr ⟨b,cells,rfl,h1,h2,(hk b (.inr rfl) h5).trans h3,hne b rfl,Zi h5 hn,h6,fun i u hu=>(h7 i u hu).to fun n hn' hl=>⟨hk n (.inl hn') hl,hs n hn',Zi hl hn⟩⟩
theorem LB.push {P:Program}{t:TypeId}(hp:apOk P t T 8) {E2:Nat->Prop}{u:Bdy}{cs:List Value}{c1:Nat}{ad:Addr}(h:LB H T E l a c) (hw:H.wf) (hl:H.load ad (1*8)=some cs) (hu:RepBI H E2 u cs) (hE:∀n,E2 n->a≠some ⟨n,0,none⟩)
  (hEl:∀n,E n->n < H.next) (hE2l:∀n,E2 n->n < H.next) (hm:l.length+1<=most) (h2:∀n,E n\/E2 n->E' n) (hnew:¬E' H.next) :
  ∃H2,dAp P #[t,t] (.slice a l.length c) (.slice (some ad) 1 c1) H=some (.val (.slice (some ⟨H.next,0,none⟩) (l.length+1) (l.length+1)) H2)/\LB H2 T E' (l++[u]) (some ⟨H.next,0,none⟩) (l.length+1)/\HK (fun n=>a=some ⟨n,0,none⟩) H H2/\H2.next=H.next+1:=by
 have hmax:l.length+1<=maxLen:=Zj hm (by simp [most,maxLen]);obtain⟨hone,hlen⟩:=hu.rep.ones;rcases h with ⟨rfl,rfl,rfl⟩|⟨b,cells,rfl,h1,h2',h3,h4,h5,h6,h7⟩
 ·have hx:=(HX.refl hw).new (some (.row cs T));refine⟨_,z47 hp (by omega) hm hl hone,?_,hx.hk _,rfl⟩;refine .inr ⟨H.next,cs,rfl,Ze _,hmax,z0n,hnew,Zf _,by simp [hlen],fun i v hv=>?_⟩
  match i,hv with
  |0,hv =>
   cases hv;rw[ZK,List.drop_zero,Zm (by omega)];exact hu.to fun n hn hl=>⟨hx.keep n hl,h2 n (.inr hn),Nat.lt_succ_of_lt hl⟩
 ·have hcells:(cells.take (l.length*8)).all one=true:=zsw _ h6 fun i hi=>(h7 i _ (Zc hi)).rep.ones.1
  have hk:HK (fun n=>some (⟨b,0,none⟩:Addr)=some ⟨n,0,none⟩) H ((H.put b none).new (some (.row (cells.take (l.length*8)++cs) T))):=((HK.refl (S:=fun n=>some (⟨b,0,none⟩:Addr)=some ⟨n,0,none⟩) hw).put (.inl rfl) h5 none).new _;have hkeep:∀n,n < H.next->n≠b->((H.put b none).new (some (.row (cells.take (l.length*8)++cs) T))).get n=H.get n:=fun n hn hne=>by
   rw[z1k (by rw[z07];exact hn),z2r hne]
  refine⟨_,z3k hp (by omega) hm hl hone h3 h6 hcells,?_,hk,rfl⟩;have htl:(cells.take (l.length*8)).length=l.length*8:=by rw[Zo];omega
  refine .inr ⟨H.next,cells.take (l.length*8)++cs,rfl,by simp,hmax,z0n,hnew,Zf _,by simp [hlen,htl];omega,fun i v hv=>?_⟩;by_cases hi:i < l.length
  ·rw[Zz hi] at hv;rw[zqw hi _ h6];exact(h7 i v hv).to fun n hn hl=>⟨hkeep n hl fun e=>h4 (e ▸ hn),h2 n (.inl hn),Nat.lt_succ_of_lt hl⟩
  ·have hil:i=l.length:=by
    have:=(List.getElem?_eq_some_iff.1 hv).1;simp at this;omega
   subst hil;simp at hv;subst hv;have e8:((cells.take (l.length*8)++cs).drop (l.length*8)).take 8=cs:=by rw[List.drop_left' htl,Zm (by omega)]
   rw[e8];exact hu.to fun n hn hl=>⟨hkeep n hl fun e=>hE n hn (by rw[e]),h2 n (.inr hn),Nat.lt_succ_of_lt hl⟩
theorem LB.mk {k:Int}{t:Tm}{ts:List Value}(h:LB H T E l a c) (hk:i64 k) (ht:RepS H E' t ts) (he:∀n,E n->E' n) (hb:∀n,a=some ⟨n,0,none⟩->E' n):RepBI H E' (.mk k t l) (eight k ts a l.length c):=by
 rcases h with ⟨rfl,rfl,rfl⟩|⟨b,cells,rfl,h1,h2,h3,h4,h5,h6,h7⟩
 ·exact .mk k t [] ts none 0 (fun _=>[]) hk ht (Ze _) (Zl _) (fun _=>⟨rfl,rfl⟩) (fun i ad hi=>by simp at hi) (fun i u hu=>by simp at hu)
 ·refine .mk k t l ts (some ⟨b,0,none⟩) c (fun i=>(cells.drop (i*8)).take 8) hk ht h1 h2 (fun h=>by cases h) (fun i ad hi ha=>?_) (fun i u hu=>(h7 i u hu).to fun n hn hl=>⟨rfl,he n hn,hl⟩);cases ha;refine⟨rfl,hb b rfl,h5,?_⟩;have hle:i*8+8<=l.length*8:=by omega
  unfold Heap.load Heap.cells;simp only[h3,ZP];rw[if_pos (by rw[Zt,Zo,List.length_drop];omega)]
end
def namedB (s:ByteArray):Bool:=utfS s && decide ((s.size:Int)<=1000)
inductive OwB:Bdy->Prop
 |mk (k:Int) (t:Tm) (l:List Bdy):(t=zeroT\/checkS t=0)->l.length<=3->(∀u∈l,OwB u)->OwB (.mk k t l)
theorem OwB.term {b:Bdy}(h:OwB b):b.term=zeroT\/checkS b.term=0:=by cases h;assumption
theorem OwB.len {b:Bdy}(h:OwB b):b.sub.length<=3:=by cases h;assumption
theorem OwB.sub {b:Bdy}(h:OwB b):∀u∈b.sub,OwB u:=by cases h;assumption
abbrev fnv (f:FuncId) (cap:Array Value):Value:=.func (.func f) #[] cap
theorem zhw {t:Tm}(hf:Fine t) (hn:nd t<=4000):checkS t=0:=z0k.2 ⟨by rw[z3z _ _ (Zf _) 0 (by omega)];omega,hf⟩
def RepD (H:Heap) (S:Nat->Prop) (c:Cls) (cs:List Value):Prop:=∃ha hc ta tc a k,cs=fift c.head ha hc c.body.kind c.body.term ta tc a c.body.sub.length k c.vars/\RepS H S c.head (six c.head ha hc)/\RepBI H S c.body (eightT c.body.kind c.body.term ta tc a c.body.sub.length k)
theorem RepD.rd {H:Heap}{S:Nat->Prop}{c:Cls}{cs:List Value}(h:RepD H S c cs):RdC H c cs:=by
 obtain⟨ha,hc,ta,tc,a,k,h1,h2,h3⟩:=h;exact⟨ha,hc,ta,tc,a,k,h1,h2.rep,h3.rep⟩
theorem RepD.to {H H':Heap}{S S':Nat->Prop}{c:Cls}{cs:List Value}(h:RepD H S c cs) (hk:∀n,S n->n < H.next->H'.get n=H.get n/\S' n/\n < H'.next):RepD H' S' c cs:=by
 obtain⟨ha,hc,ta,tc,a,k,h1,h2,h3⟩:=h;exact⟨ha,hc,ta,tc,a,k,h1,h2.to hk,h3.to hk⟩
theorem RepD.len {H:Heap}{S:Nat->Prop}{c:Cls}{cs:List Value}(h:RepD H S c cs):cs.length=15/\cs.all one=true:=by
 obtain⟨ha,hc,ta,tc,a,k,rfl,-,-⟩:=h;exact⟨rfl,rfl⟩
abbrev ksv:Value:=.func (.func 27) #[] #[]
theorem zr6:callable Tryz.prog 27=true:=by kernel_rfl
def KSame (m:Nat):Prop:=∀(t t':Tm) (cs cs':List Value) (H:Heap),SizeOf.sizeOf t < m->RepT H t cs->RepT H t' cs'->H.wf->EvF Tryz.prog okT 27 [.agg ⟨cs⟩,.agg ⟨cs'⟩] H fun v H'=>v=.bool (eqT t t')/\HX H H'
set_option maxHeartbeats 4000000 in
theorem zn8 {m:Nat}(ih:KSame m) {l l':List Tm}{a a':Option Addr}{c c':Nat}{cells cells':Nat->List Value}{H:Heap}(rl:RepL H l a c cells) (rl':RepL H l' a' c' cells') (hs:∀t∈l,SizeOf.sizeOf t < m) (hw:H.wf) :
  EvF Tryz.prog okT 26 [.slice a l.length c,.slice a' l'.length c',ksv] H fun v H'=>(∃b:Bool,v=.bool b/\(b=true↔l=l'))/\HX H H':=by
 have hm:=rl.max;refine EvF.enter rfl Tryz.func26 (by decide) rfl ?_;by_cases k6:(l.length:Int)=l'.length;rotate_left
 ·repeat' (first|refine qZa ?_|(refine qZf ?_;try simp only[z06,z01])|(refine qZb ?_;simp (config:=qZc) (disch:=first|omega|rfl) only[sB,initTm,Za,Zb,reduceCtorEq,ln26,z1z k6])|(refine qZd ?_ ?_;simp (config:=qZc) (disch:=first|omega|rfl) only[sB,Za,reduceCtorEq];refine z02 ?_))
  exact z03 rfl (by simp only[sG,Za,reduceCtorEq]) ⟨⟨false,rfl,by simp;rintro rfl;exact k6 rfl⟩,HX.refl hw⟩
 have hlen:l.length=l'.length:=by omega
 repeat' (first|refine qZa ?_|refine qZg ?_|(refine qZe ?_;try simp only[z00])|(refine qZb ?_;simp (config:=qZc) (disch:=first|omega|rfl) only[sB,initTm,Za,Zb,reduceCtorEq,ln26,z15 k6])|(refine qZm ?_ ?_;simp (config:=qZc) (disch:=first|omega|rfl) only[sB,Za,reduceCtorEq];refine z02 ?_))
 refine qZk (fun k st=>∃tm H' i,st=⟨tm,[],H'⟩/\k=l.length - i/\i<=l.length/\(∀j:Nat,j < i->l[j]?=l'[j]?) /\
   tm.get 1=some (.slice a' l'.length c')/\tm.get 2=some ksv/\tm.get 15=some (.slice a l.length c)/\tm.get 16=some (.int .i64 (l.length:Nat))/\tm.get 17=some (.int .i64 (i:Nat))/\HX H H') ?_ l.length _ ?_
 rotate_left
 ·exact⟨_,_,0,rfl,rfl,by omega,by omega,(by simp only[sG,Za,reduceCtorEq]),(by simp only[sG,Za,reduceCtorEq]),(by simp only[sG,Za,reduceCtorEq]),(by simp only[sG,Za,reduceCtorEq]),(by simp only[sB,Za,reduceCtorEq];rfl),HX.refl hw⟩
 rintro k st ⟨tm,H',i,rfl,rfl,hi,hc,t1,t2,t15,t16,t17,hx'⟩;by_cases hlt:i < l.length
 ·have hlt':i < l'.length:=by omega
  obtain⟨b,o,a1,c1,rfl,hld,hr1⟩:=rl.el hlt;obtain⟨b',o',a2,c2,rfl,hld',hr2⟩:=rl'.el hlt';have w':=hx'.wf;obtain⟨H2,e2,hx2,g2,n2,w2⟩:=z0m w' (.row zero6 28) (.row (six l[i] a1 c1) 28);have hld1:=hx'.load hw hld;have hld2:=(hx'.trans hx2).load hw hld';obtain⟨H3,e3,hx3,g3,n3,w3⟩:=z0m w2 (.row zero6 28) (.row (six l'[i] a2 c2) 28);have q2:=row6 (hx3.get w2 g2);have q3:=row6 g3
  repeat' (first|refine qZa ?_|refine qZg ?_|(refine qZe ?_;try simp only[z00])|(refine qZb ?_;simp (config:=qZc) (disch:=first|omega|rfl) only[sB,dAlloc,Za,Zb,one,ia26,ld28,zr28,st28,t1,t2,t15,t16,t17,decl hlt,hld1,hld2,e2,e3,q2,q3,z2s,z1u zr6])|(refine qZd ?_ ?_;simp (config:=qZc) (disch:=first|omega|rfl) only[sB];refine z02 ?_))
  have hx13:=(hx'.trans hx2).trans hx3;refine(ih _ _ _ _ _ (hs _ (Zu hlt)) (hr1.mono hx13 hw) (hr2.mono hx13 hw) w3).mono ?_;rintro v H4 ⟨rfl,hx4⟩;by_cases he:l[i]=l'[i]
  ·repeat' (first|(refine qZe ?_;try simp only[sA])|(refine qZb ?_;simp (config:=qZc) (disch:=first|omega|rfl) only[sB,Za,t17,z0c])|(refine z0q ?_;simp (config:=qZc) (disch:=first|omega|rfl) only[sA,z7v he,Zv])|(refine qZm ?_ ?_;simp (config:=qZc) (disch:=first|omega|rfl) only[sB,Za];refine z02 ?_))
   refine⟨l.length - (i+1),by omega,_,_,i+1,rfl,rfl,by omega,fun j hj=>?_,(by simp only[sG,Za,t1]),(by simp only[sG,Za,t2]),(by simp only[sG,Za,t15]),(by simp only[sG,Za,t16]),(by simp only[sB,Za];rfl),hx13.trans hx4⟩;by_cases hji:j=i
   ·subst hji;rw[Zc hlt,Zc hlt',he]
   ·exact hc j (by omega)
  ·repeat' (first|refine qZa ?_|(refine qZf ?_;try simp only[z06,z01])|(refine qZb ?_;simp (config:=qZc) (disch:=first|omega|rfl) only[sA])|(refine z0q ?_;simp (config:=qZc) (disch:=first|omega|rfl) only[sA,z2e he,ZM])|(refine qZd ?_ ?_;simp (config:=qZc) (disch:=first|omega|rfl) only[sB,Za];refine z02 ?_))
   refine z03 rfl (by simp only[sG,Za]) ⟨⟨false,rfl,by simp;rintro rfl;exact he rfl⟩,hx13.trans hx4⟩
 ·repeat' (first|refine qZa ?_|(refine qZi ?_;try simp only[sB])|(refine qZf ?_)|(refine qZb ?_;simp (config:=qZc) (disch:=first|omega|rfl) only[sA,t16,t17,decn hlt])|(refine qZm ?_ ?_;simp (config:=qZc) (disch:=first|omega|rfl) only[sB];refine z02 ?_))
  have he:l=l':=List.ext_getElem? fun j=>by
   by_cases hj:j < i
   ·exact hc j hj
   ·rw[Zy (by omega),Zy (by omega)]
  exact z03 rfl (by simp only[sG,Za]) ⟨⟨true,rfl,by simp [he]⟩,hx'⟩
set_option maxHeartbeats 4000000 in
theorem zhx (m:Nat):KSame m:=by
 induction m with
 |zero=>exact fun t t' cs cs' H h=>absurd h (Nat.not_lt_zero _)
 |succ m ih =>
 intro t t' cs cs' H hsz r r' hw;obtain⟨a,c,cells,rfl,b1,b2,b3,b4,b5,rl⟩:=r.six;obtain⟨a',c',cells',rfl,b1',b2',b3',b4',b5',rl'⟩:=r'.six;refine EvF.enter rfl Tryz.func27 (by decide) rfl ?_;(repeat refine qZa ?_);refine qZb ?_;simp (config:=qZc) (disch:=first|omega|rfl) only[sB,initTm,dBox,Za,Value.cells,one,reduceCtorEq];obtain⟨H2,e2,hx2,gp,gq,hnx,hw2⟩:=new2 hw (.row (six t a c) 28) (.row (six t' a' c') 28);simp only[e2];have q1:=row6 gp;have q2:=row6 gq;clear e2;by_cases k1:t.kind=t'.kind;rotate_left
 ·repeat' (first|refine qZa ?_|(refine qZf ?_)|(refine qZb ?_;simp (config:=qZc) (disch:=first|omega|rfl) only[sB,Za,reduceCtorEq,z0i,ld3,z0g k1,q1,q2,Zg]))
  exact z03 rfl (by simp only[sB,Za,reduceCtorEq];rfl) ⟨by rw[z2e (fun h=>k1 (by rw[h]))],hx2⟩
 by_cases k2:t.name=t'.name;rotate_left
 ·repeat' (first|refine qZa ?_|(refine qZf ?_)|(refine qZb ?_;simp (config:=qZc) (disch:=first|omega|rfl) only[sB,Za,reduceCtorEq,z0i,ld3,z11,ld9,z0l k1,q1,q2,z0z,z5m k2,Zg]))
  exact z03 rfl (by simp only[sB,Za,reduceCtorEq];rfl) ⟨by rw[z2e (fun h=>k2 (by rw[h]))],hx2⟩
 by_cases k3:t.num=t'.num;rotate_left
 ·repeat' (first|refine qZa ?_|(refine qZf ?_)|(refine qZb ?_;simp (config:=qZc) (disch:=first|omega|rfl) only[sB,Za,reduceCtorEq,z0i,ld3,z11,ld9,z3d,z0l k1,q1,q2,z0z,z1a k2,z5m k3,Zg]))
  exact z03 rfl (by simp only[sB,Za,reduceCtorEq];rfl) ⟨by rw[z2e (fun h=>k3 (by rw[h]))],hx2⟩
 by_cases k4:t.bits=t'.bits;rotate_left
 ·repeat' (first|refine qZa ?_|(refine qZf ?_)|(refine qZb ?_;simp (config:=qZc) (disch:=first|omega|rfl) only[sB,Za,reduceCtorEq,z0i,ld3,z11,ld9,z3d,z4n,ld25,z0l k1,q1,q2,z0z,z1a k2,z1a k3,z0g k4,Zg]))
  exact z03 rfl (by simp only[sB,Za,reduceCtorEq];rfl) ⟨by rw[z2e (fun h=>k4 (by rw[h]))],hx2⟩
 by_cases k5:t.var=t'.var;rotate_left
 ·repeat' (first|refine qZa ?_|(refine qZf ?_)|(refine qZb ?_;simp (config:=qZc) (disch:=first|omega|rfl) only[sB,Za,reduceCtorEq,z0i,ld3,z11,ld9,z3d,z4n,ld25,z3e,z0l k1,q1,q2,z0z,z1a k2,z1a k3,z0l k4,z0g k5,Zg]))
  exact z03 rfl (by simp only[sB,Za,reduceCtorEq];rfl) ⟨by rw[z2e (fun h=>k5 (by rw[h]))],hx2⟩
 repeat' (first|refine qZa ?_|(refine qZb ?_;simp (config:=qZc) (disch:=first|omega|rfl) only[sB,Za,reduceCtorEq,z0i,ld3,z11,ld9,z3d,z4n,ld25,z3e,z0u,ld26,cl26,z0l k1,q1,q2,z0z,z1a k2,z1a k3,z0l k4,z0l k5]))
 refine(zn8 ih (rl.mono hx2 hw) (rl'.mono hx2 hw) (fun u hu=>by have:=z0h hu;omega) hw2).mono ?_;rintro v H3 ⟨⟨b,rfl,hb⟩,hx3⟩
 repeat' (first|(refine qZf ?_))
 refine z03 rfl (by simp only[sB,Za,reduceCtorEq];rfl) ⟨?_,hx2.trans hx3⟩;cases b with
 |true=>rw[z7v (zly k1 k2 k3 k4 k5 (hb.1 rfl))]
 |false=>rw[z2e (fun h=>by have:=hb.2 (by rw[h]);cases this)]
end Go.Proofs.hq
end

section
namespace Go.Hb
open Go Go.RowKit
inductive Fld where
 |sl (e:TypeId) (w:Nat) (L:List (List Value))
 |mp (M:List (Value × Value))
 |vl (x:Value)
def blkOf:Value->Option Nat
 |.slice (some a) _ _=>some a.block
 |.map (some r)=>some r
 |_=>none
def FR (H:Heap) (B:Nat):Fld->Value->Prop
 |.sl e w L,v=>RepO H e w B L v
 |.mp M,v=>∃r es clock,v=.map (some r)/\B<=r/\r < H.next/\H.get r=some (.map es clock)/\es.map (fun e=>(e.key,e.val))=M
 |.vl x,v=>v=x/\blkOf v=none
structure StR (H:Heap) (B s:Nat) (T:TypeId) (F:List Fld) (V:List Value):Prop where
 obj:H.get s=some (.row V T)
 ge:B<=s
 len:F.length=V.length
 fld:∀(i:Nat) f v,F[i]?=some f->V[i]?=some v->FR H B f v
 apart:∀(i j:Nat) v u n,V[i]?=some v->V[j]?=some u->blkOf v=some n->blkOf u=some n->i=j
 off:∀(i:Nat) v,V[i]?=some v->blkOf v≠some s
 ones:V.all one=true
def Mut (H:Heap) (s n:Nat):Prop:=n=s\/∃V T,H.get s=some (.row V T)/\∃v∈V,blkOf v=some n
structure SX (s:Nat) (H H':Heap):Prop where
 hk:HK (Mut H s) H H'
 mt:∀n,Mut H' s n->Mut H s n\/H.next<=n
theorem SX.wf {s:Nat}{H H':Heap}(h:SX s H H'):H'.wf:=h.hk.wf
theorem SX.next {s:Nat}{H H':Heap}(h:SX s H H'):H.next<=H'.next:=h.hk.next
theorem SX.refl {s:Nat}{H:Heap}(hw:H.wf):SX s H H:=⟨HK.refl hw,fun _ h=>.inl h⟩
theorem SX.trans {s:Nat}{A B C:Heap}(h:SX s A B) (k:SX s B C):SX s A C :=
 ⟨h.hk.step k.hk fun n hn q=>by rcases h.mt n q with q|q;exact q;omega,fun n q=>by
  rcases k.mt n q with q|q
  ·exact h.mt n q
  ·exact .inr (Zj h.next q)⟩
theorem HX.sx {s:Nat}{H H':Heap}(h:HX H H') (hs:s < H.next):SX s H H' :=
 ⟨h.hk _,fun n q=>by
  rcases q with q|⟨V,T,hg,q⟩
  ·exact .inl (.inl q)
  ·exact .inl (.inr ⟨V,T,(h.keep s hs).symm.trans hg,q⟩)⟩
theorem SX.get {s n:Nat}{H H':Heap}(h:SX s H H') (hn:n < H.next) (hm:¬Mut H s n):H'.get n=H.get n:=h.hk.keep n hn hm
section
variable {H:Heap}{B s:Nat}{T:TypeId}{F:List Fld}{V:List Value}
theorem FR.lo {f:Fld}{v:Value}{n:Nat}(h:FR H B f v) (hn:blkOf v=some n):B<=n/\n < H.next:=by
 cases f with
 |sl e w L =>
  rcases h with ⟨rfl,rfl⟩|⟨b,c,h,rfl⟩
  ·cases hn
  ·cases hn;exact⟨h.lo,h.hi⟩
 |mp M =>
  obtain⟨r,es,clock,rfl,h1,h2,-⟩:=h;cases hn;exact⟨h1,h2⟩
 |vl x=>rw[h.2] at hn;cases hn
theorem FR.heap {f:Fld}{v:Value}(h:FR H B f v) {H':Heap}(hk:∀n,blkOf v=some n->H'.get n=H.get n) (hn:H.next<=H'.next):FR H' B f v:=by
 cases f with
 |sl e w L =>
  rcases h with h|⟨b,c,h,rfl⟩
  ·exact .inl h
  ·exact .inr ⟨b,c,h.heap (hk b rfl) hn,rfl⟩
 |mp M =>
  obtain⟨r,es,clock,rfl,h1,h2,h3,h4⟩:=h;exact⟨r,es,clock,rfl,h1,Zi h2 hn,(hk r rfl).trans h3,h4⟩
 |vl x=>exact h
theorem StR.has (h:StR H B s T F V) {i:Nat}{v:Value}(hv:V[i]?=some v):∃f,F[i]?=some f/\FR H B f v:=by
 have hi:i < F.length:=by rw[h.len];exact(List.getElem?_eq_some_iff.1 hv).1
 exact⟨F[i],Zc hi,h.fld i _ _ (Zc hi) hv⟩
theorem StR.mlo (h:StR H B s T F V) {n:Nat}(hn:Mut H s n):B<=n:=by
 rcases hn with rfl|⟨V',T',hg,v,hv,hb⟩
 ·exact h.ge
 ·rw[h.obj] at hg;cases hg;obtain⟨i,hi,rfl⟩:=ZO hv;obtain⟨f,-,hf⟩:=h.has (Zc hi);exact(hf.lo hb).1
theorem StR.mhi (h:StR H B s T F V) (hw:H.wf) {n:Nat}(hn:Mut H s n):n < H.next:=by
 rcases hn with rfl|⟨V',T',hg,v,hv,hb⟩
 ·exact hw _ _ h.obj
 ·rw[h.obj] at hg;cases hg;obtain⟨i,hi,rfl⟩:=ZO hv;obtain⟨f,-,hf⟩:=h.has (Zc hi);exact(hf.lo hb).2
theorem StR.lt (h:StR H B s T F V) (hw:H.wf):s < H.next:=hw _ _ h.obj
theorem StR.hx (h:StR H B s T F V) {H0 H':Heap}(h0:HX H0 H) (hb:H0.next<=B) (hx:SX s H H'):HX H0 H':=h0.then hx.hk fun n hn q=>by have:=h.mlo q;omega
theorem StR.keep (h:StR H B s T F V) (hw:H.wf) {H':Heap}(hx:HX H H'):StR H' B s T F V :=
 ⟨hx.get hw h.obj,h.ge,h.len,fun i f v hf hv=>by
  have q:=h.fld i f v hf hv;exact q.heap (fun n hn=>hx.keep n (q.lo hn).2) hx.next,h.apart,h.off,h.ones⟩
theorem StR.put (h:StR H B s T F V) (hw:H.wf) {H2:Heap}(hw2:H2.wf) (hn:H.next<=H2.next) {i:Nat}{v v':Value}{f':Fld}(hV:V[i]?=some v) (hk:∀n,n < H.next->blkOf v≠some n->H2.get n=H.get n)
  (hf:FR H2 B f' v') (hb:∀n,blkOf v'=some n->blkOf v=some n\/H.next<=n) (ho:one v'=true) :
  StR (H2.put s (some (.row (V.set i v') T))) B s T (F.set i f') (V.set i v')/\SX s H (H2.put s (some (.row (V.set i v') T))):=by
 have hs:=h.lt hw;have hi:i < V.length:=(List.getElem?_eq_some_iff.1 hV).1;have hmem:v∈V:=Zx hV;obtain⟨f,hF,hfv⟩:=h.has hV;have hvs:=h.off i v hV;have hb's:blkOf v'≠some s:=fun q=>by
  rcases hb s q with q|q
  ·exact hvs q
  ·omega
 have hset:∀(j:Nat) u,(V.set i v')[j]?=some u->(j=i/\u=v')\/(j≠i/\V[j]?=some u):=fun j u q=>by
  rw[List.getElem?_set] at q;by_cases hij:i=j
  ·rw[if_pos hij,if_pos hi] at q;cases q;exact .inl ⟨hij.symm,rfl⟩
  ·rw[if_neg hij] at q;exact .inr ⟨fun e=>hij e.symm,q⟩
 have hw':(H2.put s (some (.row (V.set i v') T))).wf:=by
  intro n D hD;rw[get_put] at hD;rw[z07];split at hD
  ·subst n;omega
  ·exact hw2 _ _ hD
 refine⟨⟨by rw[get_put,if_pos rfl],h.ge,by rw[List.length_set,List.length_set];exact h.len,fun j g u hg hu=>?_,fun j k u u' n h1 h2 h3 h4=>?_,fun j u hu=>?_,?_⟩,⟨⟨by rw[z07];exact hn,fun n hn' hm=>?_,hw'⟩,fun n hm=>?_⟩⟩
 ·rcases hset j u hu with ⟨rfl,rfl⟩|⟨hj,hu'⟩
  ·rw[List.getElem?_set,if_pos rfl,if_pos (by rw[h.len];exact hi)] at hg;cases hg;refine hf.heap (fun n hn=>?_) (by rw[z07];exact Ze _);rw[get_put,if_neg (fun e:n=s=>hb's (e ▸ hn))]
  ·rw[List.getElem?_set,if_neg (fun e=>hj e.symm)] at hg;have q:=h.fld j g u hg hu';refine q.heap (fun n hn=>?_) (by rw[z07];exact hn);rw[get_put,if_neg (fun e:n=s=>h.off j u hu' (e ▸ hn))];exact hk n (q.lo hn).2 fun e=>hj (h.apart j i u v n hu' hV hn e)
 ·rcases hset j u h1 with ⟨rfl,rfl⟩|⟨hj,hu⟩
  ·rcases hset k u' h2 with ⟨rfl,rfl⟩|⟨hk',hu'⟩
   ·rfl
   ·rcases hb n h3 with q|q
    ·exact h.apart _ _ _ _ n hV hu' q h4
    ·obtain⟨f2,-,q2⟩:=h.has hu';have:=(q2.lo h4).2;omega
  ·rcases hset k u' h2 with ⟨rfl,rfl⟩|⟨hk',hu'⟩
   ·rcases hb n h4 with q|q
    ·exact h.apart _ _ _ _ n hu hV h3 q
    ·obtain⟨f2,-,q2⟩:=h.has hu;have:=(q2.lo h3).2;omega
   ·exact h.apart _ _ _ _ n hu hu' h3 h4
 ·rcases hset j u hu with ⟨rfl,rfl⟩|⟨hj,hu'⟩
  ·exact hb's
  ·exact h.off j u hu'
 ·rw[List.all_eq_true];intro u hu;rcases List.mem_or_eq_of_mem_set hu with q|q
  ·exact List.all_eq_true.1 h.ones u q
  ·rw[q];exact ho
 ·rw[get_put,if_neg (fun e=>hm (.inl e))];exact hk n hn' fun e=>hm (.inr ⟨V,T,h.obj,v,hmem,e⟩)
 ·rcases hm with q|⟨V',T',hg,u,hu,hub⟩
  ·exact .inl (.inl q)
  ·rw[get_put,if_pos rfl] at hg;cases hg;rcases List.mem_or_eq_of_mem_set hu with q|q
   ·exact .inl (.inr ⟨V,T,h.obj,u,q,hub⟩)
   ·rw[q] at hub;rcases hb n hub with e|e
    ·exact .inl (.inr ⟨V,T,h.obj,v,hmem,e⟩)
    ·exact .inr e
theorem StR.alter (h:StR H B s T F V) (hw:H.wf) {H2:Heap}(hw2:H2.wf) (hn:H.next<=H2.next) {i:Nat}{v:Value}{f':Fld}(hV:V[i]?=some v) (hk:∀n,n < H.next->blkOf v≠some n->H2.get n=H.get n)
  (hf:FR H2 B f' v):StR H2 B s T (F.set i f') V/\SX s H H2:=by
 have hs:=h.lt hw;have hi:i < V.length:=(List.getElem?_eq_some_iff.1 hV).1;have hmem:v∈V:=Zx hV;have hvs:=h.off i v hV;have hobj:H2.get s=some (.row V T):=(hk s hs hvs).trans h.obj;refine⟨⟨hobj,h.ge,by rw[List.length_set];exact h.len,fun j g u hg hu=>?_,h.apart,h.off,h.ones⟩,⟨⟨hn,fun n hn' hm=>?_,hw2⟩,fun n hm=>?_⟩⟩
 ·by_cases hj:i=j
  ·subst hj;rw[List.getElem?_set,if_pos rfl,if_pos (by rw[h.len];exact hi)] at hg;cases hg;rw[hV] at hu;cases hu;exact hf
  ·rw[List.getElem?_set,if_neg hj] at hg;have q:=h.fld j g u hg hu;exact q.heap (fun n hn=>hk n (q.lo hn).2 fun e=>hj (h.apart j i u v n hu hV hn e).symm) hn
 ·exact hk n hn' fun e=>hm (.inr ⟨V,T,h.obj,v,hmem,e⟩)
 ·rcases hm with q|⟨V',T',hg,u,hu,hub⟩
  ·exact .inl (.inl q)
  ·rw[hobj] at hg;cases hg;exact .inl (.inr ⟨V,T,h.obj,u,hu,hub⟩)
theorem StR.setv (h:StR H B s T F V) (hw:H.wf) {i:Nat}{v v':Value}(hV:V[i]?=some v) (hb:blkOf v'=none) (ho:one v'=true) :
  StR (H.put s (some (.row (V.set i v') T))) B s T (F.set i (.vl v')) (V.set i v')/\SX s H (H.put s (some (.row (V.set i v') T))) :=
 h.put hw hw (Ze _) hV (fun _ _ _=>rfl) (f':=.vl v') ⟨rfl,hb⟩ (fun n hn=>by rw[hb] at hn;cases hn) ho
theorem StR.vl (h:StR H B s T F V) {i:Nat}{x:Value}(hF:F[i]?=some (.vl x)) {v:Value}(hV:V[i]?=some v):v=x:=(h.fld i _ _ hF hV).1
theorem StR.load (h:StR H B s T F V) {i:Nat}{v:Value}(hv:V[i]?=some v):H.load ⟨s,i,none⟩ 1=some [v]:=by
 unfold Heap.load Heap.cells;simp only[h.obj];have hi:=List.getElem?_eq_some_iff.1 hv;have e:(V.drop i).take 1=[v]:=by
  rw[ZG hi.1,List.take_succ_cons,List.take_zero,hi.2]
 rw[e];rfl
theorem StR.sl (h:StR H B s T F V) {i:Nat}{v:Value}{e:TypeId}{w:Nat}{L:List (List Value)}(hF:F[i]?=some (.sl e w L)) (hV:V[i]?=some v):∃a c,v=.slice a L.length c/\L.length<=c/\c<=maxLen :=
 RepO.slice (h.fld i _ _ hF hV)
theorem StR.el (h:StR H B s T F V) {i n c k:Nat}{a:Option Addr}{e:TypeId}{w:Nat}{L:List (List Value)}{x:List Value}(hF:F[i]?=some (.sl e w L)) (hV:V[i]?=some (.slice a n c)) (hx:L[k]?=some x) :
  ∃b,a=some ⟨b,0,none⟩/\OwnS H e w B L b c/\H.load ⟨b,k*w,none⟩ w=some x:=by
 rcases h.fld i _ _ hF hV with ⟨rfl,q⟩|⟨b,c',q,e⟩
 ·simp at hx
 ·cases e;exact⟨b,rfl,q,q.load hx⟩
theorem FR.push {P:Program}{t e:TypeId}{w:Nat}{L:List (List Value)}{v:Value}(h:FR H B (.sl e w L) v) (hw:H.wf) (hp:apOk P t e w) {y:List Value}{ad:Addr}{c1:Nat}(hl:H.load ad (1*w)=some y) (hy:y.length=w) (ha:y.all one=true) (hm:L.length+1<=most) (hB:B<=H.next) :
  ∃H2 c,dAp P #[t,t] v (.slice (some ad) 1 c1) H=some (.val (.slice (some ⟨H.next,0,none⟩) (L.length+1) c) H2)/\OwnS H2 e w B (L++[y]) H.next c/\H2.next=H.next+1/\H2.wf/\(∀n,n < H.next->blkOf v≠some n->H2.get n=H.get n)/\H2.get H.next=some (.row (L++[y]).flatten e):=by
 have hmax:L.length+1<=maxLen:=Zj hm (by simp [most,maxLen]);rcases h with ⟨rfl,rfl⟩|⟨b,c,h,rfl⟩
 ·refine⟨_,1,z47 hp (by omega) hm hl ha,OwnS.first hy ha hB,rfl,((HX.refl hw).new _).wf,fun n hn _=>z1k hn,by rw[z0n];simp⟩
 ·obtain⟨cs,hg,hle,ht⟩:=h.row;have hbn:b < H.next:=h.hi;have hone:(cs.take (L.length*w)).all one=true:=by
   rw[ht,List.all_eq_true];intro z hz;obtain⟨l,hl1,hl2⟩:=List.mem_flatten.1 hz;exact List.all_eq_true.1 (h.all l hl1) z hl2
  refine⟨_,_,z3k hp (by omega) hm hl ha hg hle hone,h.push hg hy ha hmax hB,rfl,(((HK.refl (S:=fun n=>n=b) hw).put (.inl rfl) hbn none).new _).wf,fun n hn hne=>?_,?_⟩
  ·rw[z1k (by rw[z07];exact hn),z2r (fun e=>hne (by rw[e];rfl))]
  ·show ((H.put b none).new _).get (H.put b none).next=_;rw[z0n,ht,List.flatten_append];simp
theorem StR.pushed {P:Program}{t e:TypeId}{w i c1:Nat}{L:List (List Value)}{v:Value}{y:List Value}{ad:Addr}(h:StR H B s T F V) (hw:H.wf) (hp:apOk P t e w) (hF:F[i]?=some (.sl e w L)) (hV:V[i]?=some v) (hl:H.load ad (1*w)=some y)
  (hy:y.length=w) (ha:y.all one=true) (hm:L.length+1<=most) :
  ∃H2 c,dAp P #[t,t] v (.slice (some ad) 1 c1) H=some (.val (.slice (some ⟨H.next,0,none⟩) (L.length+1) c) H2)/\H2.get s=some (.row V T)/\H2.wf/\(∀n,n < H.next->blkOf v≠some n->H2.get n=H.get n)/\∃H3,H2.put s (some (.row (V.set i (.slice (some ⟨H.next,0,none⟩) (L.length+1) c)) T))=H3 /\
   StR H3 B s T (F.set i (.sl e w (L++[y]))) (V.set i (.slice (some ⟨H.next,0,none⟩) (L.length+1) c))/\SX s H H3:=by
 have hB:B<=H.next:=Zj h.ge (Nat.le_of_lt (h.lt hw));obtain⟨H2,c,e2,o2,n2,w2,k2,-⟩:=(h.fld i _ _ hF hV).push (c1:=c1) hw hp hl hy ha hm hB;have p:=h.put hw w2 (by omega) hV k2 (f':=.sl e w (L++[y])) (v':=.slice (some ⟨H.next,0,none⟩) (L.length+1) c) (.inr ⟨_,c,o2,by simp⟩) (fun n hn=>.inr (by cases hn;exact Ze _)) rfl;exact⟨H2,c,e2,(k2 s (h.lt hw) (h.off i v hV)).trans h.obj,w2,k2,_,rfl,p.1,p.2⟩
end
end Go.Hb
end

section
namespace Go.Hb
open Go Go.RowKit
def dNilC (v:Value) (H:Heap):Option Dr:=match v with
 |.pointer (some a)=>some (.val (.pointer (some a)) H)
 |.func (.func f) a b=>some (.val (.func (.func f) a b) H)
 |_=>none
theorem z0d {P:Program}{H:Heap}{d:Option Tmp}{x:Operand}{ty:TypeId}{pos:String}{af:Array Edge}{g:Option (Nat × Bool)}{ρ:Operand->Value}:dop P ⟨d,.nilCheck x,ty,pos,af,g⟩ ρ H=dNilC (ρ x) H:=_root_.id rfl
theorem z0o {H:Heap}{a:Addr}:dNilC (.pointer (some a)) H=some (.val (.pointer (some a)) H):=_root_.id rfl
theorem z70 {H:Heap}{p:Nat}{T:TypeId}{x y:Value}(h:H.get p=some (.row [x,y] T)):H.load ⟨p,0,none⟩ 2=some [x,y]/\H.load ⟨p,0,none⟩ 1=some [x]/\H.load ⟨p,1,none⟩ 1=some [y]:=by
 simp only[Heap.load,Heap.cells,h];exact⟨rfl,rfl,rfl⟩
theorem z5z {H:Heap}{p:Nat}{T:TypeId}{x y z:Value}(h:H.get p=some (.row [x,y,z] T)):H.load ⟨p,0,none⟩ 3=some [x,y,z]/\H.load ⟨p,0,none⟩ 1=some [x]/\H.load ⟨p,1,none⟩ 1=some [y]/\H.load ⟨p,2,none⟩ 1=some [z]:=by
 simp only[Heap.load,Heap.cells,h];exact⟨rfl,rfl,rfl,rfl⟩
theorem zfl {H:Heap}{p:Nat}{T:TypeId}{x:Value}(h:H.get p=some (.row [x] T)):H.load ⟨p,0,none⟩ 1=some [x]:=by
 simp only[Heap.load,Heap.cells,h];rfl
theorem StR.row {H:Heap}{B s:Nat}{T:TypeId}{F:List Fld}{V:List Value}(h:StR H B s T F V) {i n c k:Nat}{a:Option Addr}{e:TypeId}{w:Nat}{L:List (List Value)}(hF:F[i]?=some (.sl e w L)) (hV:V[i]?=some (.slice a n c)) (hk:k < L.length) :
  ∃b cs,a=some ⟨b,0,none⟩/\OwnS H e w B L b c/\H.get b=some (.row cs e)/\L.length*w<=cs.length:=by
 obtain⟨b,rfl,o,ld⟩:=h.el hF hV (Zc hk);obtain⟨cs,h1,h2,h3⟩:=o.row;exact⟨b,cs,rfl,o,h1,h2⟩
theorem StR.write {H:Heap}{B s:Nat}{T:TypeId}{F:List Fld}{V:List Value}(h:StR H B s T F V) (hw:H.wf) {i n c k b:Nat}{e:TypeId}{w:Nat}{L:List (List Value)}{cs y:List Value}(hF:F[i]?=some (.sl e w L)) (hV:V[i]?=some (.slice (some ⟨b,0,none⟩) n c)) (hk:k < L.length)
  (hg:H.get b=some (.row cs e)) (hy:y.length=w) (ha:y.all one=true) :
  ∃H2,H.put b (some (.row (splice cs (k*w) y) e))=H2/\StR H2 B s T (F.set i (.sl e w (L.set k y))) V/\SX s H H2:=by
 obtain⟨b',e1,o,ld⟩:=h.el hF hV (Zc hk);cases e1;have hb:b < H.next:=hw _ _ hg;have hn:n=L.length:=by obtain⟨a',c',e2,-⟩:=h.sl hF hV;cases e2;rfl
 subst hn;have hk2:=(HK.refl (S:=fun n=>n=b) hw).put (.inl rfl) hb (some (.row (splice cs (k*w) y) e));have p:=h.alter hw (H2:=H.put b (some (.row (splice cs (k*w) y) e))) hk2.wf (Ze _) hV (fun n hn hne=>by rw[get_put,if_neg (fun e=>hne (by rw[e];rfl))]) (f':=.sl e w (L.set k y)) (.inr ⟨b,c,o.set hg hk hy ha,by rw[List.length_set]⟩);exact⟨_,rfl,p.1,p.2⟩
theorem StR.cut {H:Heap}{B s:Nat}{T:TypeId}{F:List Fld}{V:List Value}(h:StR H B s T F V) (hw:H.wf) {i n c m:Nat}{a:Option Addr}{e:TypeId}{w:Nat}{L:List (List Value)}(hF:F[i]?=some (.sl e w L)) (hV:V[i]?=some (.slice a n c)) (hm:m<=L.length) :
  ∃H2,H.put s (some (.row (V.set i (.slice a m c)) T))=H2/\StR H2 B s T (F.set i (.sl e w (L.take m))) (V.set i (.slice a m c))/\SX s H H2:=by
 have q:=h.fld i _ _ hF hV;have hb:∀n',blkOf (.slice a m c)=some n'->blkOf (.slice a n c)=some n'\/H.next<=n':=fun n' hn=>.inl (by cases a<;>exact hn)
 have p:=h.put hw (H2:=H) hw (Ze _) hV (fun _ _ _=>rfl) (f':=.sl e w (L.take m)) (v':=.slice a m c) (RepO.takeR q hm) hb rfl;exact⟨_,rfl,p.1,p.2⟩
theorem StR.beside {H:Heap}{B s:Nat}{T:TypeId}{F:List Fld}{V:List Value}(h:StR H B s T F V) {H':Heap}(hk:∀n,Mut H s n->H'.get n=H.get n) (hn:H.next<=H'.next):StR H' B s T F V :=
 ⟨(hk s (.inl rfl)).trans h.obj,h.ge,h.len,fun i f v hf hv=>(h.fld i f v hf hv).heap (fun n hb=>hk n (.inr ⟨V,T,h.obj,v,Zx hv,hb⟩)) hn,h.apart,h.off,h.ones⟩
theorem Mut.same {H H':Heap}{s:Nat}(hk:H'.get s=H.get s) (n:Nat):Mut H' s n↔Mut H s n:=by
 unfold Mut;rw[hk]
theorem StR.kind {H:Heap}{B s:Nat}{T:TypeId}{F:List Fld}{V:List Value}(h:StR H B s T F V) {n:Nat}(hm:Mut H s n):(∃cs,H.get n=some (.row cs T))\/(∃(i:Nat) (e:TypeId) (w:Nat) (L:List (List Value)) (cs:List Value),F[i]?=some (Fld.sl e w L)/\H.get n=some (.row cs e))\/∃(i:Nat) (M:List (Value × Value)) (es:List MapEntry) (c:Nat),F[i]?=some (Fld.mp M)/\H.get n=some (.map es c):=by
 rcases hm with rfl|⟨V',T',hg,v,hv,hb⟩
 ·exact .inl ⟨_,h.obj⟩
 rw[h.obj] at hg;cases hg;obtain⟨i,hi,rfl⟩:=ZO hv;obtain⟨f,hf,hr⟩:=h.has (Zc hi);cases f with
 |sl e w L =>
  rcases hr with ⟨-,q⟩|⟨b,c,o,q⟩
  ·rw[q] at hb;cases hb
  ·rw[q] at hb;cases hb;obtain⟨cs,g,-⟩:=o.row;exact .inr (.inl ⟨i,e,w,L,cs,hf,g⟩)
 |mp M =>
  obtain⟨r,es,c,q,-,-,g,-⟩:=hr;rw[q] at hb;cases hb;exact .inr (.inr ⟨i,M,es,c,hf,g⟩)
 |vl x=>rw[hr.2] at hb;cases hb
end Go.Hb
end

section
namespace Go.Proofs.hq
open Go Go.RowKit Go.Hb
variable {ok:Ok}
set_option maxRecDepth 10000
attribute [local irreducible] LX LG EL STG SOP SGO SGD SAL SRD SEF SEG SLK SCK ES
theorem z83 {P:Program}{α:Type}{a:α}:pureRun P (pure a)=some a:=rfl
theorem zec {P:Program}:pureRun P program=some P:=rfl
theorem zvv:Tryz.prog.stoodInHeld 23=false:=by kernel_rfl
theorem un49:pureRun Tryz.prog (underlying 23)=some (.struct #[{ name := "Name", type:=9,offset:=0,embedded:=false,tag := "", pkgPath := "", byteOffset:=0 },{ name := "Arity", type:=3,offset:=1,embedded:=false,tag := "", pkgPath := "", byteOffset:=16 }]):=by kernel_rfl
theorem zr7 {n:Nat}{cs:Array Value}{v:Value}(h:cs[n]?=some v):pureRun Tryz.prog (part 3 cs n)=some v:=by
 have h1:pureRun Tryz.prog (isAgg 3)=some false:=by kernel_rfl
 unfold part;rw[z0b,h1,ZB,h];rfl
theorem zr8 {n:Nat}{cs:Array Value}{v:Value}(h:cs[n]?=some v):pureRun Tryz.prog (part 9 cs n)=some v:=by
 have h1:pureRun Tryz.prog (isAgg 9)=some false:=by kernel_rfl
 unfold part;rw[z0b,h1,ZB,h];rfl
theorem zt6 {d:Nat}{a b:Int}:pureRun Tryz.prog (Op.equalIn (d+1) 3 (.int .i64 a) (.int .i64 b))=some (a == b):=by
 have hu:pureRun Tryz.prog (underlying 3)=some (.int .i64):=by kernel_rfl
 unfold Op.equalIn;rw[z0b,hu,ZB];rfl
theorem zt7 {d:Nat}{a b:ByteArray}:pureRun Tryz.prog (Op.equalIn (d+1) 9 (.string a) (.string b))=some (a == b):=by
 have hu:pureRun Tryz.prog (underlying 9)=some .string:=by kernel_rfl
 unfold Op.equalIn;rw[z0b,hu,ZB];rfl
theorem zuu {a b:ByteArray}{n m:Int}:pureRun Tryz.prog (Op.equal 23 (.agg #[.string a,.int .i64 n]) (.agg #[.string b,.int .i64 m]))=some (a == b && n == m):=by
 show pureRun Tryz.prog (Op.equalIn (9999+1) _ _ _)=_;unfold Op.equalIn;rw[z0b,un49,ZB];simp only[];rw[z0b,zec,ZB,zvv];simp only[Zg,if_false];have p1:pureRun Tryz.prog (part 9 #[Value.string a,Value.int IntKind.i64 n] 0)=some (.string a):=zr8 rfl;have p2:pureRun Tryz.prog (part 9 #[Value.string b,Value.int IntKind.i64 m] 0)=some (.string b):=zr8 rfl;have p3:pureRun Tryz.prog (part 3 #[Value.string a,Value.int IntKind.i64 n] 1)=some (.int .i64 n):=zr7 rfl;have p4:pureRun Tryz.prog (part 3 #[Value.string b,Value.int IntKind.i64 m] 1)=some (.int .i64 m):=zr7 rfl;have e1:pureRun Tryz.prog (Op.equalIn 9999 9 (.string a) (.string b))=some (a == b):=zt7;have e2:pureRun Tryz.prog (Op.equalIn 9999 3 (.int .i64 n) (.int .i64 m))=some (n == m):=zt6;have nn:(("Name" : String) ≠ "_")=True:=by simp
 have na:(("Arity" : String) ≠ "_")=True:=by simp
 simp only[<-Array.forIn_toList,List.forIn_cons,List.forIn_nil,z0b,nn,na,if_true,p1,p2,e1,ZB];cases hab:a == b with
 |false=>simp [z0b,z83]
 |true =>
  simp only[Zv,Zg,if_false,z0b,z83,ZB,p3,p4,e2];cases hnm:n == m<;>simp [z0b,z83]
abbrev PK:=ByteArray × Int
abbrev ptr (b:Nat):Value:=.pointer (some ⟨b,0,none⟩)
structure RowS where
 const:Bool
 which:Int
 ids:List Nat
structure MS where
 key:PK
 index:Bool
 clauses:List Tm
 ins:List (List Value)
 consts:List Tm
 funs:List PK
 starts:List (List Value)
 rows:List RowS
 rest:List Nat
 seen:Option (List (Int × Value))
 marks:Int
def idK (l:List Nat):List (List Value):=l.map fun i=>[.int .i64 (i:Nat)]
def funC (l:List PK):List (List Value):=l.map fun k=>[.string k.1,.int .i64 k.2]
def seenM (l:List (Int × Value)):List (Value × Value):=l.map fun p=>(.int .i64 p.1,p.2)
def sFld:Option (List (Int × Value))->Fld
 |none=>.vl (.map none)
 |some M=>.mp (seenM M)
def mFlds (σ:MS) (cl ts rs:List (List Value)):List Fld :=
 [.vl (.string σ.key.1),.vl (.int .i64 σ.key.2),.sl 47 15 cl,.vl (.bool σ.index),.sl 53 3 σ.ins,.sl 28 6 ts,.sl 23 2 (funC σ.funs),.sl 3 1 σ.starts,.sl 65 3 rs,.sl 3 1 (idK σ.rest),sFld σ.seen,.vl (.int .i64 σ.marks)]
def MutK (H:Heap) (p:Nat) (rs:List (List Value)) (n:Nat):Prop:=Mut H p n\/∃r∈rs,∃v∈r,blkOf v=some n
def OffK (H:Heap) (p:Nat) (rs:List (List Value)) (n:Nat):Prop:=n < H.next/\¬MutK H p rs n
def TmsR (H:Heap) (S:Nat->Prop) (l:List Tm) (ts:List (List Value)):Prop:=ts.length=l.length/\∀(i:Nat) (t:Tm),l[i]?=some t->∃cs:List Value,ts[i]?=some cs/\RepS H S t cs
def ClsR (H:Heap) (S:Nat->Prop) (l:List Tm) (cl:List (List Value)):Prop:=cl.length=l.length/\∀(i:Nat) (c:Tm),l[i]?=some c->∃cs k u ua uc va vn vc z,cl[i]?=some (cs++(eightT k u ua uc va vn vc++[.int .i64 z]))/\RepS H S c cs
structure RowsR (H:Heap) (B p:Nat) (l:List RowS) (rs:List (List Value)):Prop where
 len:rs.length=l.length
 el:∀(i:Nat) (r:RowS),l[i]?=some r->∃v,rs[i]?=some [.bool r.const,.int .i64 r.which,v]/\RepO H 3 1 B (idK r.ids) v/\∀n,blkOf v=some n->¬Mut H p n
 dis:∀(i j:Nat) (r q:List Value) (v u:Value) (n:Nat),rs[i]?=some r->rs[j]?=some q->v∈r->u∈q->blkOf v=some n->blkOf u=some n->i=j
structure MkA (H:Heap) (B p:Nat) (σ:MS) (rs:List (List Value)):Prop where
 obj:∃V cl ts,StR H B p 58 (mFlds σ cl ts rs) V/\TmsR H (OffK H p rs) σ.consts ts/\ClsR H (OffK H p rs) σ.clauses cl
 rws:RowsR H B p σ.rows rs
section
variable {H H':Heap}{B p:Nat}{σ σ':MS}{rs:List (List Value)}
theorem TmsR.to {S S':Nat->Prop}{l:List Tm}{ts:List (List Value)}(h:TmsR H S l ts) (hk:∀n,S n->n < H.next->H'.get n=H.get n/\S' n/\n < H'.next):TmsR H' S' l ts :=
 ⟨h.1,fun i x hx=>by obtain⟨cs,h1,h2⟩:=h.2 i x hx;exact⟨cs,h1,h2.to hk⟩⟩
theorem ClsR.to {S S':Nat->Prop}{l:List Tm}{cl:List (List Value)}(h:ClsR H S l cl) (hk:∀n,S n->n < H.next->H'.get n=H.get n/\S' n/\n < H'.next):ClsR H' S' l cl :=
 ⟨h.1,fun i x hx=>by obtain⟨cs,x1,x2,x3,x4,x5,x6,x7,x8,h1,h2⟩:=h.2 i x hx;exact⟨cs,x1,x2,x3,x4,x5,x6,x7,x8,h1,h2.to hk⟩⟩
theorem MkA.lo (h:MkA H B p σ rs) {n:Nat}(hm:MutK H p rs n):B<=n/\(H.wf->n < H.next):=by
 obtain⟨V,cl,ts,hs,-,-⟩:=h.obj;rcases hm with hm|⟨r,hr,v,hv,hb⟩
 ·exact⟨hs.mlo hm,fun hw=>hs.mhi hw hm⟩
 ·obtain⟨i,hi,rfl⟩:=ZO hr;have hil:i < σ.rows.length:=by rw[<-h.rws.len];exact hi
  obtain⟨v',h1,h2,-⟩:=h.rws.el i _ (Zc hil);rw[Zc hi] at h1;rw[Option.some.inj h1] at hv;simp only[List.mem_cons,ZF,or_false] at hv;rcases hv with rfl|rfl|rfl
  ·cases hb
  ·cases hb
  ·have:=FR.lo (f:=.sl 3 1 _) h2 hb;exact⟨this.1,fun _=>this.2⟩
theorem MkA.hi (h:MkA H B p σ rs) (hw:H.wf) {n:Nat}(hm:MutK H p rs n):n < H.next:=(h.lo hm).2 hw
theorem MkA.lt (h:MkA H B p σ rs) (hw:H.wf):p < H.next:=h.hi hw (.inl (.inl rfl))
structure KX (H H':Heap) (p:Nat) (rs rs':List (List Value)):Prop where
 hk:HK (MutK H p rs) H H'
 mt:∀n,MutK H' p rs' n->MutK H p rs n\/H.next<=n
theorem KX.trans {A C D:Heap}{r1 r2 r3:List (List Value)}(h:KX A C p r1 r2) (k:KX C D p r2 r3):KX A D p r1 r3 :=
 ⟨h.hk.step k.hk fun n hn q=>by rcases h.mt n q with q|q;exact q;omega,fun n q=>by
  rcases k.mt n q with q|q
  ·exact h.mt n q
  ·exact .inr (Zj h.hk.next q)⟩
theorem KX.off {r1 r2:List (List Value)}(h:KX H H' p r1 r2) {n:Nat}(ho:OffK H p r1 n):H'.get n=H.get n/\OffK H' p r2 n/\n < H'.next :=
 ⟨h.hk.keep n ho.1 ho.2,⟨Zi ho.1 h.hk.next,fun q=>by
  rcases h.mt n q with q|q
  ·exact ho.2 q
  ·have:=ho.1;omega⟩,Zi ho.1 h.hk.next⟩
theorem KX.hx {H0:Heap}{r2:List (List Value)}(dx:KX H H' p rs r2) (h:MkA H B p σ rs) (hx0:HX H0 H) (hB:H0.next<=B):HX H0 H':=hx0.then dx.hk fun n hn q=>by have:=(h.lo q).1;omega
theorem MkA.turn (h:MkA H B p σ rs) (hw:H.wf) {V':List Value}{cl' ts':List (List Value)}(hs:StR H' B p 58 (mFlds σ' cl' ts' rs) V') (sx:SX p H H') (hr:σ'.rows=σ.rows)
  (ht:∀S:Nat->Prop,(∀n,OffK H p rs n->S n)->(∀n,H.next<=n->n < H'.next->¬Mut H' p n->S n)->TmsR H' S σ'.consts ts') (hc:∀S:Nat->Prop,(∀n,OffK H p rs n->S n)->(∀n,H.next<=n->n < H'.next->¬Mut H' p n->S n)->ClsR H' S σ'.clauses cl') :
  MkA H' B p σ' rs/\KX H H' p rs rs:=by
 have hnr:∀n,(∃r∈rs,∃v∈r,blkOf v=some n)->n < H.next/\¬Mut H p n:=fun n ⟨r,hr',v,hv,hb⟩=>by
  refine⟨h.hi hw (.inr ⟨r,hr',v,hv,hb⟩),?_⟩;obtain⟨i,hi,rfl⟩:=ZO hr';have hil:i < σ.rows.length:=by rw[<-h.rws.len];exact hi
  obtain⟨v',h1,h2,h3⟩:=h.rws.el i _ (Zc hil);rw[Zc hi] at h1;rw[Option.some.inj h1] at hv;simp only[List.mem_cons,ZF,or_false] at hv;rcases hv with rfl|rfl|rfl
  ·cases hb
  ·cases hb
  ·exact h3 n hb
 have hnr':∀n,(∃r∈rs,∃v∈r,blkOf v=some n)->¬Mut H' p n:=fun n hn q=>by
  obtain⟨a1,a2⟩:=hnr n hn;rcases sx.mt n q with q|q
  ·exact a2 q
  ·omega
 have kx:KX H H' p rs rs:=⟨sx.hk.sub fun n _ q=>.inl q,fun n q=>by
  rcases q with q|q
  ·exact(sx.mt n q).imp .inl id
  ·exact .inl (.inr q)⟩
 have hnew:∀n,H.next<=n->n < H'.next->¬Mut H' p n->OffK H' p rs n:=fun n b1 b2 b3=>⟨b2,fun q=>by
  rcases q with q|q
  ·exact b3 q
  ·have:=(hnr n q).1;omega⟩
 refine⟨⟨⟨V',cl',ts',hs,ht _ (fun n hn=>(kx.off hn).2.1) hnew,hc _ (fun n hn=>(kx.off hn).2.1) hnew⟩,⟨by rw[hr];exact h.rws.len,fun i r hi=>?_,h.rws.dis⟩⟩,kx⟩;rw[hr] at hi;obtain⟨v,h1,h2,h3⟩:=h.rws.el i r hi;have hmem:∀n,blkOf v=some n->∃r∈rs,∃v∈r,blkOf v=some n:=fun n hn=>⟨_,Zx h1,v,by simp,hn⟩
 refine⟨v,h1,?_,fun n hn=>hnr' n (hmem n hn)⟩;exact FR.heap (f:=.sl 3 1 (idK r.ids)) h2 (fun n hn=>by
  obtain⟨b1,b2⟩:=hnr n (hmem n hn);exact sx.hk.keep n b1 b2) sx.next
theorem MkA.turn0 (h:MkA H B p σ rs) (hw:H.wf) {V':List Value}{cl ts:List (List Value)}(ht:TmsR H (OffK H p rs) σ.consts ts) (hc:ClsR H (OffK H p rs) σ.clauses cl) (hs:StR H' B p 58 (mFlds σ' cl ts rs) V') (sx:SX p H H') (hr:σ'.rows=σ.rows) (h1:σ'.consts=σ.consts) (h2:σ'.clauses=σ.clauses) :
  MkA H' B p σ' rs/\KX H H' p rs rs:=by
 have hoff:∀S:Nat->Prop,(∀n,OffK H p rs n->S n)->∀n,OffK H p rs n->n < H.next->H'.get n=H.get n/\S n/\n < H'.next:=fun S h1 n hn hl=>⟨sx.hk.keep n hl fun q=>hn.2 (.inl q),h1 n hn,Zi hl sx.next⟩
 exact h.turn hw hs sx hr (fun S q _=>h1 ▸ ht.to (hoff S q)) fun S q _=>h2 ▸ hc.to (hoff S q)
theorem MkA.keep (h:MkA H B p σ rs) (hw:H.wf) (hx:HX H H'):MkA H' B p σ rs/\KX H H' p rs rs:=by
 obtain⟨V,cl,ts,hs,ht,hc⟩:=h.obj;have hoff:∀S:Nat->Prop,(∀n,OffK H p rs n->S n)->∀n,OffK H p rs n->n < H.next->H'.get n=H.get n/\S n/\n < H'.next:=fun S h1 n hn hl=>⟨hx.keep n hl,h1 n hn,Zi hl hx.next⟩
 exact h.turn hw (hs.keep hw hx) (hx.sx (h.lt hw)) rfl (fun S h1 _=>ht.to (hoff S h1)) fun S h1 _=>hc.to (hoff S h1)
structure Gr (σ σ':MS) (k:Nat):Prop where
 key:σ'.key=σ.key
 index:σ'.index=σ.index
 clauses:σ'.clauses=σ.clauses
 rows:σ'.rows=σ.rows
 rest:σ'.rest=σ.rest
 starts:σ'.starts=σ.starts
 sn:σ.seen.isSome=true->σ'.seen.isSome=true
 ins0:σ.ins.length<=σ'.ins.length
 ins:σ'.ins.length<=σ.ins.length+k
 cs:σ'.consts.length<=σ.consts.length+k
 fs:σ'.funs.length<=σ.funs.length+k
 pc:∃l,σ'.consts=σ.consts++l
 pf:∃l,σ'.funs=σ.funs++l
 gc:σ.consts.Nodup->σ'.consts.Nodup
 gf:σ.funs.Nodup->σ'.funs.Nodup
theorem Gr.refl:Gr σ σ 0:=⟨rfl,rfl,rfl,rfl,rfl,rfl,id,Ze _,Ze _,Ze _,Ze _,⟨[],by simp⟩,⟨[],by simp⟩,id,id⟩
theorem Gr.trans {σ2:MS}{k k':Nat}(h:Gr σ σ' k) (g:Gr σ' σ2 k'):Gr σ σ2 (k+k') :=
 ⟨g.key.trans h.key,g.index.trans h.index,g.clauses.trans h.clauses,g.rows.trans h.rows,g.rest.trans h.rest,g.starts.trans h.starts,fun q=>g.sn (h.sn q),Zj h.ins0 g.ins0,by have:=h.ins;have:=g.ins;omega,by have:=h.cs;have:=g.cs;omega,by have:=h.fs;have:=g.fs;omega,
  by obtain⟨l,e⟩:=h.pc;obtain⟨l',e'⟩:=g.pc;exact⟨l++l',by rw[e',e,List.append_assoc]⟩,by obtain⟨l,e⟩:=h.pf;obtain⟨l',e'⟩:=g.pf;exact⟨l++l',by rw[e',e,List.append_assoc]⟩,fun q=>g.gc (h.gc q),fun q=>g.gf (h.gf q)⟩
theorem Gr.up {k k':Nat}(h:Gr σ σ' k) (hk:k<=k'):Gr σ σ' k':={ h with ins:=by have:=h.ins;omega,cs:=by have:=h.cs;omega,fs:=by have:=h.fs;omega }
end
end Go.Proofs.hq
end

section
namespace Go.Hb
open Go Go.RowKit
theorem zt8 {P:Program}{H:Heap}{t kt et:TypeId}{z v:Value}{r:Nat}{M:List (Int × Value)}{n:Int}(h:mpOk P t kt et z) (hm:MapR H r M) :
  ∃B M',dUp P t (.map (some r)) (.int .i64 n) v H=some (.val undef (H.put r (some B)))/\MapR (H.put r (some B)) r M':=by
 have h0:=h;obtain⟨h1,h2,h3,h4⟩:=h;rcases hv:mGet M n with _|u
 ·obtain⟨B,e,k⟩:=zbs (v:=v) h0 hm hv;exact⟨B,_,e,k⟩
 ·obtain⟨es,clock,hg,he⟩:=hm;rcases z7y (M:=M) (n:=n) with ⟨_,h5⟩|⟨i,w,h5,h6,h7⟩
  ·rw[h5] at hv;cases hv
  ·obtain⟨e,h8,h9⟩:∃e,es[i]?=some e/\e.key=.int .i64 n:=by
    have:=congrArg (·[i]?) he;simp only[Zw,h6,ZE,Option.map_eq_some_iff,Prod.mk.injEq] at this;obtain⟨e,h8,h9,-⟩:=this;exact⟨e,h8,h9⟩
   have hb:Instr.sameBits 10000 e.key (.int .i64 n)=true:=by rw[h9];simp [Instr.sameBits]
   refine⟨.map (es.set i { e with key:=.int .i64 n,val:=v }) clock,M.set i (n,v),by simp only[dUp,dupdate,h1,hg,z6p h2 he,h5,h8,hb,if_true],_,_,by rw[Heap.get_put,if_pos rfl],?_⟩;rw[List.map_set,List.map_set,he]
end Go.Hb
namespace Go.Proofs.hq
open Go Go.RowKit Go.Hb
variable {ok:Ok}
set_option maxRecDepth 10000
attribute [local irreducible] LX LG EL STG SOP SGO SGD SAL SRD SEF SEG SLK SCK ES
def Same2 (H H':Heap) (p:Nat):Prop:=H'.load ⟨p,2,none⟩ 1=H.load ⟨p,2,none⟩ 1
theorem _root_.Go.Hb.HX.same2 {H H':Heap}{p:Nat}(h:HX H H') (hp:p < H.next):Same2 H H' p:=by
 unfold Same2 Heap.load Heap.cells;rw[h.keep p hp]
abbrev Bk (n c:Nat):Prop:=n<=c/\c<=maxLen
section
variable {H H':Heap}{B p:Nat}{σ σ':MS}{rs:List (List Value)}
theorem z1o {l:List Nat}:(idK l).length=l.length:=Zp ..
theorem zc9 {l:List PK}:(funC l).length=l.length:=Zp ..
abbrev mV (σ:MS) (a2:Option Addr) (c2:Nat) (a4:Option Addr) (c4:Nat) (a5:Option Addr) (c5:Nat) (a6:Option Addr) (c6:Nat) (a7:Option Addr) (c7:Nat) (a8:Option Addr) (c8:Nat) (a9:Option Addr) (c9:Nat) (sv:Value):List Value :=
 [.string σ.key.1,.int .i64 σ.key.2,.slice a2 σ.clauses.length c2,.bool σ.index,.slice a4 σ.ins.length c4,.slice a5 σ.consts.length c5,.slice a6 σ.funs.length c6,.slice a7 σ.starts.length c7,.slice a8 σ.rows.length c8,.slice a9 σ.rest.length c9,sv,.int .i64 σ.marks]
theorem MkA.open (h:MkA H B p σ rs):∃a2 c2 a4 c4 a5 c5 a6 c6 a7 c7 a8 c8 a9 c9 sv cl ts,
  StR H B p 58 (mFlds σ cl ts rs) (mV σ a2 c2 a4 c4 a5 c5 a6 c6 a7 c7 a8 c8 a9 c9 sv)/\TmsR H (OffK H p rs) σ.consts ts/\ClsR H (OffK H p rs) σ.clauses cl /\
  H.load ⟨p,0,none⟩ 1=some [.string σ.key.1]/\H.load ⟨p,1,none⟩ 1=some [.int .i64 σ.key.2]/\H.load ⟨p,2,none⟩ 1=some [.slice a2 σ.clauses.length c2]/\H.load ⟨p,3,none⟩ 1=some [.bool σ.index]/\H.load ⟨p,4,none⟩ 1=some [.slice a4 σ.ins.length c4] /\
  H.load ⟨p,5,none⟩ 1=some [.slice a5 σ.consts.length c5]/\H.load ⟨p,6,none⟩ 1=some [.slice a6 σ.funs.length c6]/\H.load ⟨p,7,none⟩ 1=some [.slice a7 σ.starts.length c7]/\H.load ⟨p,8,none⟩ 1=some [.slice a8 σ.rows.length c8]/\H.load ⟨p,9,none⟩ 1=some [.slice a9 σ.rest.length c9]/\H.load ⟨p,10,none⟩ 1=some [sv]/\H.load ⟨p,11,none⟩ 1=some [.int .i64 σ.marks] /\
  Bk σ.clauses.length c2/\Bk σ.ins.length c4/\Bk σ.consts.length c5/\Bk σ.funs.length c6/\Bk σ.starts.length c7/\Bk σ.rows.length c8/\Bk σ.rest.length c9:=by
 obtain⟨V,cl,ts,hs,ht,hc⟩:=h.obj;have hl:=hs.len
 match V,hs,hl with
 |[v0,v1,v2,v3,v4,v5,v6,v7,v8,v9,v10,v11],hs,_ =>
  obtain rfl:=hs.vl (i:=0) rfl rfl;obtain rfl:=hs.vl (i:=1) rfl rfl;obtain⟨a2,c2,rfl,q2⟩:=hs.sl (i:=2) rfl rfl;obtain rfl:=hs.vl (i:=3) rfl rfl;obtain⟨a4,c4,rfl,q4⟩:=hs.sl (i:=4) rfl rfl;obtain⟨a5,c5,rfl,q5⟩:=hs.sl (i:=5) rfl rfl;obtain⟨a6,c6,rfl,q6⟩:=hs.sl (i:=6) rfl rfl;obtain⟨a7,c7,rfl,q7⟩:=hs.sl (i:=7) rfl rfl;obtain⟨a8,c8,rfl,q8⟩:=hs.sl (i:=8) rfl rfl;obtain⟨a9,c9,rfl,q9⟩:=hs.sl (i:=9) rfl rfl;obtain rfl:=hs.vl (i:=11) rfl rfl;rw[hc.1] at q2 hs;rw[ht.1] at q5 hs;rw[zc9] at q6 hs;rw[h.rws.len] at q8 hs;rw[z1o] at q9 hs;exact⟨a2,c2,a4,c4,a5,c5,a6,c6,a7,c7,a8,c8,a9,c9,v10,cl,ts,hs,ht,hc,hs.load rfl,hs.load rfl,hs.load rfl,hs.load rfl,hs.load rfl,hs.load rfl,hs.load rfl,hs.load rfl,hs.load rfl,hs.load rfl,hs.load rfl,hs.load rfl,q2,q4,q5,q6,q7,q8,q9⟩
theorem zpf {n:Nat}(h:n<=maxLen):IntKind.i64.wrap (((n+1:Nat):Int) - 1)=(n:Int):=by
 unfold maxLen at h;rw[z0c (by omega) (by omega)];omega
set_option maxHeartbeats 4000000 in
theorem zvw (h:MkA H B p σ rs) (hw:H.wf) (o a b:Int) (hm:σ.ins.length+1<=most) :
  EvF Tryz.prog okT 38 [ptr p,.int .i64 o,.int .i64 a,.int .i64 b] H fun v H'=>v=.int .i64 (σ.ins.length:Nat)/\MkA H' B p { σ with ins:=σ.ins++[[.int .i64 o,.int .i64 a,.int .i64 b]] } rs/\KX H H' p rs rs/\H'.wf:=by
 refine EvF.enter rfl Tryz.func38 (by decide) rfl ?_;obtain⟨a2,c2,a4,c4,a5,c5,a6,c6,a7,c7,a8,c8,a9,c9,sv,cl,ts,hs,ht,hc,l0,l1,l2,l3,l4,l5,l6,l7,l8,l9,l10,l11,b2,b4,b5,b6,b7,b8,b9⟩:=h.open;obtain⟨H1,e1,hx1,g1,n1,w1⟩:=new1 hw (.row [.int .i64 o,.int .i64 a,.int .i64 b] 53);obtain⟨H2,k2,e2,g2,-,-,H3,e3,s3,x3⟩:=(hs.keep hw hx1).pushed (P:=Tryz.prog) (i:=4) (c1:=1) w1 ap30 rfl rfl (z5z g1).1 rfl rfl hm;simp only[List.set_cons_zero,List.set_cons_succ] at e2 e3 s3;have sx:=(hx1.sx (hs.lt hw)).trans x3;obtain⟨h3,kx⟩:=h.turn0 (σ':={ σ with ins:=σ.ins++[[.int .i64 o,.int .i64 a,.int .i64 b]] }) hw ht hc s3 sx rfl rfl rfl;have l4':=s3.load (i:=4) rfl
 repeat' (first|refine qZa ?_|(refine qZf ?_)|(refine qZb ?_;simp (config:=qZc) (disch:=first|omega|rfl) only[sB,initTm,Za,Zb,Value.cells,one,reduceCtorEq,Zq,layC,z2w,zgw,ld30,bd53,zql,st30,ln30,z0d,z0o,l4,e1,e2,g2,e3,l4',zpf (Zj b4.1 b4.2)]))
 exact z03 rfl (by simp only[sG,Za,reduceCtorEq]) ⟨rfl,h3,kx,sx.wf⟩
set_option maxHeartbeats 4000000 in
theorem zhy (h:MkA H B p σ rs) (hw:H.wf) (hsn:σ.seen.isSome=true) (v:Int) :
  EvF Tryz.prog okT 40 [ptr p,.int .i64 v] H fun r H'=>∃(b:Bool) (M:List (Int × Value)),r=.bool b/\MkA H' B p { σ with seen:=some M } rs/\KX H H' p rs rs/\H'.wf:=by
 refine EvF.enter rfl Tryz.func40 (by decide) rfl ?_;obtain⟨M,hM⟩:=Option.isSome_iff_exists.1 hsn;obtain⟨a2,c2,a4,c4,a5,c5,a6,c6,a7,c7,a8,c8,a9,c9,sv,cl,ts,hs,ht,hc,l0,l1,l2,l3,l4,l5,l6,l7,l8,l9,l10,l11,b2,b4,b5,b6,b7,b8,b9⟩:=h.open;have hF:(mFlds σ cl ts rs)[10]?=some (.mp (seenM M)):=by show some (sFld σ.seen)=_;rw[hM];rfl
 obtain⟨r,es,clock,er,hr1,hr2,hg,he⟩:=hs.fld 10 _ _ hF rfl;subst er;have hmr:MapR H r M:=⟨es,clock,hg,he⟩
 obtain⟨x,b,elk⟩:∃(x:Value) (b:Bool),∀n:Nat,dLk Tryz.prog 56 (.map (some r)) (.int .i64 v) true ⟨n,H.t⟩=some (.val (.tuple #[x,.bool b]) ⟨n,H.t⟩):=by
  rcases hv:mGet M v with _|u
  ·exact⟨_,_,fun n=>z5a mapI (H:=⟨n,H.t⟩) hmr hv⟩
  ·exact⟨_,_,fun n=>z59 mapI (H:=⟨n,H.t⟩) hmr hv⟩
 obtain⟨Bm,M',eup,hm'⟩:=zt8 (v:=.int .i64 1) (n:=v) mapI hmr;obtain⟨H4,e4⟩:∃H4,H.put r (some Bm)=H4:=⟨_,rfl⟩
 have n4:H4.next=H.next:=by rw[<-e4];rfl
 have w4:H4.wf:=by rw[<-e4];exact((HK.refl (S:=fun n=>n=r) hw).put (.inl rfl) hr2 _).wf
 rw[e4] at hm';obtain⟨es',ck',hg',he'⟩:=hm';have p4:=hs.alter hw (H2:=H4) w4 (Nat.le_of_eq n4.symm) (i:=10) (v:=.map (some r)) rfl (fun n hn hne=>by rw[<-e4,get_put,if_neg (fun e=>hne (by rw[e];rfl))]) (f':=.mp (seenM M'))
  ⟨r,es',ck',rfl,hr1,by omega,hg',he'⟩
 obtain⟨h4,kx⟩:=h.turn0 (σ':={ σ with seen:=some M' }) hw ht hc p4.1 p4.2 rfl rfl rfl;have eup':dUp Tryz.prog 56 (.map (some r)) (.int .i64 v) (.int .i64 1) ⟨H.next,H.t⟩=some (.val undef H4):=by rw[<-e4];exact eup
 repeat' (first|refine qZa ?_|(refine qZf ?_)|(refine qZb ?_;simp (config:=qZc) (disch:=first|omega|rfl) only[sB,initTm,Za,reduceCtorEq,zqi,ld56,z0d,z0o,l10,z1n,z2y,elk,eup']))
 exact z03 rfl (by simp only[sB,Za,reduceCtorEq];rfl) ⟨_,M',rfl,h4,kx,w4⟩
end
end Go.Proofs.hq
end

section
namespace Go.Proofs.hq
open Go Go.RowKit Go.Hb
variable {ok:Ok}
set_option maxRecDepth 10000
attribute [local irreducible] LX LG EL STG SOP SGO SGD SAL SRD SEF SEG SLK SCK ES
abbrev kk (k:PK):List Value:=[.string k.1,.int .i64 k.2]
theorem zuv {a b:ByteArray}(h:(a == b)=true):a=b:=by
 cases a;cases b;have h:(_ == _)=true:=h;exact congrArg _ (eq_of_beq h)
theorem zr9 {a:ByteArray}:(a == a)=true:=by
 cases a with
 |mk d=>exact(beq_self_eq_true d:(d == d)=true)
theorem zra {H:Heap}{x y:Operand}{a b:ByteArray}{n m:Int}:dBin Tryz.prog .eql 23 x y (.agg ⟨[.string a,.int .i64 n]⟩) (.agg ⟨[.string b,.int .i64 m]⟩) H=some (.val (.bool (a == b && n == m)) H):=by
 have g:(Tryz.prog.eqGuardType Tryz.prog.depth 23)=false:=by kernel_rfl
 simp only[dBin,dnil,flat,flatL,eqGuard,binOp];simp only[Bool.and_self,Zv,ZM,Zg,if_false,flat,z0b,zec,ZB,g,if_true,z83,zuu]
theorem zfm {H:Heap}{k q:PK}(hw:H.wf):EvF Tryz.prog okT 69 [.agg ⟨kk k⟩,.agg ⟨kk q⟩] H fun v H'=>v=.bool (decide (k=q))/\HX H H':=by
 refine EvF.enter rfl Tryz.func69 (by decide) rfl ?_;(repeat refine qZa ?_);refine qZb ?_;simp (config:=qZc) (disch:=first|omega|rfl) only[sB,initTm,dBox,Za,Value.cells,one,reduceCtorEq];obtain⟨H2,e2,hx2,g1,g2,hn2,hw2⟩:=new2 hw (.row (kk k) 23) (.row (kk q) 23);simp only[e2];clear e2;have q1:=z70 g1;have q2:=z70 g2
 repeat' (first|refine qZa ?_|(refine qZf ?_)|(refine qZb ?_;simp (config:=qZc) (disch:=first|omega|rfl) only[sB,Za,reduceCtorEq,ld23,q1,q2,zra]))
 refine z03 rfl (by simp only[sB,Za,reduceCtorEq];rfl) ⟨?_,hx2⟩;congr 1;rw[Bool.eq_iff_iff];simp only[Zk,beq_iff_eq,decide_eq_true_eq];exact⟨fun h=>Prod.ext (zuv h.1) h.2,fun h=>by rw[h];exact⟨zr9,rfl⟩⟩
theorem zuw:callable Tryz.prog 69=true:=by kernel_rfl
abbrev f1v:Value:=.func (.func 69) #[] #[]
def posK (l:List PK) (k:PK):Nat:=l.findIdx fun x=>decide (k=x)
def putK (l:List PK) (k:PK):List PK:=if posK l k < l.length then l else l++[k]
theorem zt9 (l:List PK) (k:PK):(putK l k)[posK l k]?=some k:=by
 unfold putK;split
 ·rename_i h;have:=List.findIdx_getElem (w:=h);simp only[decide_eq_true_eq] at this;rw[Zc h];exact congrArg some this.symm
 ·rename_i h;have h0:posK l k=l.length:=Nat.le_antisymm List.findIdx_le_length (by omega);rw[h0,ZC (Ze _),Nat.sub_self];rfl
theorem zb0 {l:List PK}{k:PK}(h:l.Nodup):(putK l k).Nodup:=by
 unfold putK;split
 ·exact h
 ·rename_i hn;refine List.nodup_append.2 ⟨h,List.nodup_cons.2 ⟨ZF,List.nodup_nil⟩,fun a ha b hb e=>?_⟩;rw[List.mem_singleton.1 hb] at e;exact hn (List.findIdx_lt_length.2 ⟨a,ha,by simp [e]⟩)
theorem zhz (l:List PK) (k:PK):∃r,putK l k=l++r:=by
 unfold putK;split
 ·exact⟨[],by simp⟩
 ·exact⟨_,rfl⟩
theorem zi0 (l:List PK) (k:PK):(putK l k).length<=l.length+1:=by
 unfold putK;split
 ·omega
 ·simp
theorem zta {p:Prop} [Decidable p] (h:p):decide p=true:=decide_eq_true h
theorem zpg {p:Prop} [Decidable p] (h:¬p):decide p=false:=decide_eq_false h
section
variable {H H':Heap}{B p:Nat}{σ σ':MS}{rs:List (List Value)}
set_option maxHeartbeats 4000000 in
theorem zn9 (h:MkA H B p σ rs) (hw:H.wf) (k:PK) (hm:σ.funs.length+1<=most) :
  EvF Tryz.prog okT 68 [.pointer (some ⟨p,6,none⟩),.agg ⟨kk k⟩,f1v] H fun v H'=>v=.int .i64 (posK σ.funs k:Nat)/\MkA H' B p { σ with funs:=putK σ.funs k } rs/\KX H H' p rs rs/\H'.wf/\Same2 H H' p:=by
 refine EvF.enter rfl Tryz.func68 (by decide) rfl ?_;(repeat refine qZa ?_);refine qZb ?_;simp (config:=qZc) (disch:=first|omega|rfl) only[sB,initTm,dBox,Za,Zb,Value.cells,one,reduceCtorEq];obtain⟨H1,e1,hx1,g1,n1,w1⟩:=new1 hw (.row (kk k) 23);simp only[e1];clear e1;obtain⟨h1,kx1⟩:=h.keep hw hx1;obtain⟨a2,c2,a4,c4,a5,c5,a6,c6,a7,c7,a8,c8,a9,c9,sv,cl,ts,hs,ht,hc,l0,l1,l2,l3,l4,l5,l6,l7,l8,l9,l10,l11,b2,b4,b5,b6,b7,b8,b9⟩:=h1.open;have hmx:σ.funs.length<=9223372036854775807:=by have:=b6.1;have:=b6.2;unfold maxLen at *;omega
 repeat' (first|refine qZa ?_|refine qZg ?_|(refine qZb ?_;simp (config:=qZc) (disch:=first|omega|rfl) only[sB,Za,reduceCtorEq,ld31,ln31,z0d,z0o,l6]))
 refine qZk (fun k' st=>∃tm G i,st=⟨tm,[],G⟩/\k'=σ.funs.length - i/\i<=σ.funs.length/\(∀j (hj:j < i) (hl:j < σ.funs.length),k≠σ.funs[j]) /\
   tm.get 0=some (.pointer (some ⟨p,6,none⟩))/\tm.get 2=some f1v/\tm.get 4=some (.pointer (some ⟨H.next,0,none⟩))/\tm.get 11=some (.slice a6 σ.funs.length c6)/\tm.get 12=some (.int .i64 (σ.funs.length:Nat))/\tm.get 13=some (.int .i64 (i:Nat))/\HX H1 G) ?_ σ.funs.length _ ?_
 rotate_left
 ·exact⟨_,_,0,rfl,rfl,by omega,fun j hj=>absurd hj (Nat.not_lt_zero _),(by simp only[sG,reduceCtorEq]),(by simp only[sG,Za,reduceCtorEq]),(by simp only[sG,Za,reduceCtorEq]),(by simp only[sG,Za,reduceCtorEq]),(by simp only[sG,Za,reduceCtorEq]),(by simp only[sB,Za,reduceCtorEq];rfl),HX.refl w1⟩
 rintro k' st ⟨tm,G,i,rfl,rfl,hi,hall,t0,t2,t4,t11,t12,t13,hxG⟩;have wG:=hxG.wf;have q1:=z70 (hxG.get w1 g1);by_cases hlt:i < σ.funs.length
 ·obtain⟨b,rfl,o,ld⟩:=hs.el (i:=6) (k:=i) (x:=kk σ.funs[i]) rfl rfl (by show (funC σ.funs)[i]?=_;unfold funC;rw[Zw,Zc hlt];rfl);have ldG:=hxG.load w1 ld;obtain⟨G1,eG1,hxG1,gG1,nG1,wG1⟩:=z0m wG (.row [.string Zd,.int .i64 0] 23) (.row (kk σ.funs[i]) 23);have q3:=z70 gG1;have q1':=z70 (hxG1.get wG (hxG.get w1 g1))
  repeat' (first|refine qZa ?_|refine qZg ?_|(refine qZe ?_;try simp only[z00])|(refine qZb ?_;simp (config:=qZc) (disch:=first|omega|rfl) only[sB,dAlloc,Za,Zb,one,ia31,ld23,zr23,st23,t2,t4,t11,t12,t13,decl hlt,ldG,eG1,q1',q3,z2s,z1u zuw])|(refine qZd ?_ ?_;simp (config:=qZc) (disch:=first|omega|rfl) only[sB];refine z02 ?_))
  refine(zfm wG1).mono ?_;rintro v G2 ⟨rfl,hxG2⟩;have hxx:=(hxG.trans hxG1).trans hxG2;by_cases he:k=σ.funs[i]
  ·have hp:posK σ.funs k=i:=(List.findIdx_eq hlt).2 ⟨zta he,fun j hj=>zpg (hall j hj _)⟩;have hpu:putK σ.funs k=σ.funs:=by unfold putK;rw[hp,if_pos hlt]
   repeat' (first|refine qZa ?_|(refine qZf ?_;try simp only[z06,z01])|(refine qZb ?_;simp (config:=qZc) (disch:=first|omega|rfl) only[sB,Za,zta he])|(refine qZd ?_ ?_;simp (config:=qZc) (disch:=first|omega|rfl) only[sB,Za,zta he];refine z02 ?_))
   obtain⟨h2,kx2⟩:=h1.keep w1 hxx;refine z03 rfl (by simp only[sB,Za];rfl) ⟨by rw[hp],?_,kx1.trans kx2,hxx.wf,(hx1.trans hxx).same2 (h.lt hw)⟩;rw[hpu];exact h2
  ·repeat' (first|(refine qZe ?_;try simp only[sA,zpg he])|(refine qZb ?_;simp (config:=qZc) (disch:=first|omega|rfl) only[sB,Za,t13,z0c])|(refine qZm ?_ ?_;simp (config:=qZc) (disch:=first|omega|rfl) only[sB,Za,zpg he];refine z02 ?_))
   exact⟨σ.funs.length - (i+1),by omega,_,_,i+1,rfl,rfl,by omega,fun j hj hl=>by
    by_cases hji:j=i
    ·subst hji;exact he
    ·exact hall j (by omega) hl,(by simp only[sG,reduceCtorEq,t0]),(by simp only[sG,Za,t2]),(by simp only[sG,Za,t4]),(by simp only[sG,Za,t11]),(by simp only[sG,Za,t12]),(by simp only[sB,Za];rfl),hxx⟩
 ·have hp:posK σ.funs k=σ.funs.length:=List.findIdx_eq_length.2 fun x hx=>by
   obtain⟨j,hj,rfl⟩:=ZO hx;exact zpg (hall j (by omega) hj)
  have hpu:putK σ.funs k=σ.funs++[k]:=by unfold putK;rw[hp,if_neg (Nat.lt_irrefl _)]
  have l6':=hxG.load w1 l6;obtain⟨H2,e2,hx2,g2,w2⟩:=zl1 wG 9 5 (by omega) (.row (kk k) 23);obtain⟨H3,k3,e3,g3,-,-,H4,e4,s4,x4⟩:=(hs.keep w1 (hxG.trans hx2)).pushed (P:=Tryz.prog) (i:=6) (c1:=1) w2 ap31 rfl rfl (z70 g2).1 rfl rfl (by rw[zc9];exact hm);simp only[List.set_cons_zero,List.set_cons_succ,zc9] at e3 e4 s4;have sx:=((hxG.trans hx2).sx (hs.lt w1)).trans x4;obtain⟨h4,kx4⟩:=h1.turn0 (σ':={ σ with funs:=putK σ.funs k }) w1 ht hc (by rw[hpu];simpa [mFlds,funC] using s4) sx rfl rfl rfl;have l6x:=s4.load (i:=6) rfl
  repeat' (first|refine qZa ?_|(refine qZi ?_;try simp only[sB])|(refine qZf ?_)|(refine qZb ?_;simp (config:=qZc) (disch:=first|omega|rfl) only[sB,Za,reduceCtorEq,ld31,ln31,z0d,z0o,t0,t12,t13,decn hlt,l6x,zpf (Zj b6.1 b6.2)])|(refine qZj [([(1,0),(2,0),(3,0),(4,0),(5,0)],some 6),([(0,0),(7,1)],some 8),([],none)] ?_ ?_;kernel_rfl;simp (config:=qZc) (disch:=first|omega|rfl) only[sD,sB,Za,Zb,Value.cells,one,reduceCtorEq,Zq,layC,ld31,ld23,zu1,st31,z0d,z0o,t0,t4,l6',q1,e2,e3,g3,e4,isAlloc,isRead,dalloc,zaf])|(refine qZm ?_ ?_;simp (config:=qZc) (disch:=first|omega|rfl) only[sB];refine z02 ?_))
  exact z03 rfl (by simp only[sB,Za];rfl) ⟨by rw[hp],h4,kx1.trans kx4,sx.wf,((s4.load (i:=2) rfl).trans l2.symm).trans (hx1.same2 (h.lt hw))⟩
end
section
variable {H H':Heap}{B p:Nat}{σ σ':MS}{rs:List (List Value)}
def keyT (t:Tm):PK:=(t.name,(t.args.length:Int))
set_option maxHeartbeats 4000000 in
theorem zfn (h:MkA H B p σ rs) (hw:H.wf) (t:Tm) (a:Option Addr) (c:Nat) (hm:σ.funs.length+1<=most) :
  EvF Tryz.prog okT 42 [ptr p,.agg ⟨six t a c⟩] H fun v H'=>v=.int .i64 (posK σ.funs (keyT t):Nat)/\MkA H' B p { σ with funs:=putK σ.funs (keyT t) } rs/\KX H H' p rs rs/\H'.wf/\Same2 H H' p:=by
 refine EvF.enter rfl Tryz.func42 (by decide) rfl ?_;(repeat refine qZa ?_);refine qZb ?_;simp (config:=qZc) (disch:=first|omega|rfl) only[sB,initTm,dBox,Value.cells,one,reduceCtorEq];obtain⟨H1,e1,hx1,g1,n1,w1⟩:=new1 hw (.row (six t a c) 28);simp only[e1];clear e1;obtain⟨H2,e2,hx2,w2⟩:=z3l w1 12;have q1:=row6 (hx2.get w1 g1);obtain⟨h2,kx2⟩:=h.keep hw (hx1.trans hx2)
 repeat' (first|refine qZa ?_|(refine qZj [([(0,0),(1,0),(2,0),(3,0),(4,0),(5,0),(6,0),(7,0),(8,0),(9,0)],some 10),([(11,1)],none)] ?_ ?_;kernel_rfl;simp (config:=qZc) (disch:=first|omega|rfl) only[sD,sB,Za,Zb,Value.cells,one,reduceCtorEq,Zq,layC,z2w,zh0,z11,ld9,z0u,ld26,ln26,bd23,cl68,z0d,z0o,q1,e2,isAlloc,isRead]))
 refine(zn9 h2 w2 (keyT t) hm).mono ?_;rintro v H3 ⟨rfl,h3,kx3,w3,sm3⟩
 repeat' (first|(refine qZf ?_)|(refine z0p ?_;simp (config:=qZc) (disch:=first|omega|rfl) only[sD,sB,Za,reduceCtorEq,isAlloc,isRead]))
 exact z03 rfl (by simp only[sG,Za,reduceCtorEq]) ⟨rfl,h3,kx2.trans kx3,w3,sm3.trans ((hx1.trans hx2).same2 (h.lt hw))⟩
set_option maxHeartbeats 4000000 in
theorem zca {t:Tm}{cs:List Value}(r0:RepT H t cs) (hw:H.wf) :
  EvF Tryz.prog okT 14 [.agg ⟨cs⟩] H fun v H'=>HX H H'/\∃u a c,v=.agg ⟨six u a c⟩/\(checkS t=0->u=t/\RepS H' (Rg H.next H'.next) t (six t a c)):=by
 obtain⟨a,c,cells,rfl,-⟩:=r0.six;refine EvF.enter rfl Tryz.func14 (by decide) rfl ?_;(repeat refine qZa ?_);refine qZb ?_;simp (config:=qZc) (disch:=first|omega|rfl) only[sB,initTm,dBox,dAlloc,Value.cells,one,zr28];obtain⟨H2,e2,hx2,gt,gq,hn2,hw2⟩:=new2 hw (.row (six t a c) 28) (.row zero6 28);simp only[e2];clear e2;have qt:=row6 gt;(repeat refine qZa ?_);refine qZb ?_;simp (config:=qZc) (disch:=first|omega|rfl) only[sB,Za,reduceCtorEq,ld28,cl37,qt];have rb:RepB7 H2 [] none 0:=⟨Ze _,Zl _,fun i hi=>by simp at hi⟩
 refine(zqv (r0.mono hx2 hw) rb hw2).mono ?_;rintro v H3 ⟨hx3,⟨hp,out,rfl,hrep,htop⟩|⟨hn,e,rfl,he⟩⟩;rotate_left
 ·have gq3:=hx3.get hw2 gq;obtain⟨H4,e4,hx4,g4,hn4,hw4⟩:=z0m hx3.wf (.row zero6 28) (.row zero6 28);have gq4:=hx4.get hx3.wf gq3;have q4:=row6 g4
  repeat' (first|refine qZa ?_|(refine qZf ?_)|(refine qZb ?_;simp (config:=qZc) (disch:=first|omega|rfl) only[sB,Za,Zb,one,reduceCtorEq,ld28,st28,q4,gq4])|(refine z0q ?_;simp (config:=qZc) (disch:=first|omega|rfl) only[sB,dAlloc,Za,Zb,one,reduceCtorEq,zr28,st28,e4]))
  exact z0a rfl (by simp only[sB,Za,reduceCtorEq];rfl) (by simp only[sB,Zb,cutC,ld28];rfl) ⟨((hx2.trans hx3).trans hx4).pt (by omega) gq4 _,zeroT,none,0,rfl,fun q=>absurd (zdv q) hn⟩
 rw[zbw _ t (Zf _)] at hrep htop;obtain⟨a3,c3,zak,rfl,-⟩:=hrep.rep.six;have gq3:=hx3.get hw2 gq;obtain⟨H4,e4,hx4,g4,hn4,hw4⟩:=z0m hx3.wf (.row zero6 28) (.row (six t a3 c3) 28);have q4:=row6 g4;have gq4:=hx4.get hx3.wf gq3;have n3:=hx3.next
 repeat' (first|refine qZa ?_|(refine qZf ?_)|(refine qZb ?_;simp (config:=qZc) (disch:=first|omega|rfl) only[sB,Za,Zb,one,reduceCtorEq,ld28,st28,q4,gq4])|(refine z0q ?_;simp (config:=qZc) (disch:=first|omega|rfl) only[sB,dAlloc,Za,Zb,one,reduceCtorEq,zr28,st28,e4]))
 refine z0a rfl (by simp only[sB,Za,reduceCtorEq];rfl) (by simp only[sB,Zb,cutC,ld28]) ⟨((hx2.trans hx3).trans hx4).pt (by omega) gq4 _,t,a3,c3,rfl,fun _=>⟨rfl,hrep.to fun n hn hl=>?_⟩⟩;have:=hn.1;exact⟨by rw[get_put,if_neg (by omega)];exact hx4.keep n hl,⟨by omega,by rw[z07];omega⟩,by rw[z07];omega⟩
end
end Go.Proofs.hq
end

section
namespace Go.Hb
open Go Go.RowKit
section
variable {P:Program}{ok:Ok}{x:Ctx}{ops:Array Oper}{base:Nat}
theorem EvS.mono {K K':St->Prop}(hk:∀st,K st->K' st):∀(S:List (List (Nat × Nat) × Option Nat)) (hs:List Heap) (tm:Tr Value) (ds:List Deferred),EvS P ok x ops base S hs tm ds K->EvS P ok x ops base S hs tm ds K'
 |[],_,_,_,h=>h
 |(L,none) :: _,hs,tm,ds,h=>by
  obtain⟨G,gs,e,h⟩:=h;exact⟨G,gs,e,h.mono (fun _ _ q=>hk _ q)⟩
 |(L,some e) :: S,hs,tm,ds,h=>by
  obtain⟨G,gs,o,e,ho,h⟩:=h;refine⟨G,gs,o,e,ho,h.mono (fun tm1 H1 q=>?_)⟩;rcases q with ⟨hw,q⟩|⟨hw,q⟩
  ·exact .inl ⟨hw,EvS.mono hk S _ _ _ q⟩
  ·exact .inr ⟨hw,q.mono fun v ds1 H2 q=>EvS.mono hk S _ _ _ q⟩
def stgs (ops:Array Oper) (es:List Nat) (done:Nat):List (List (Nat × Nat) × Option Nat) :=
 (schedGo ops.size (Region.before ops) (effsOf ops) es done).map fun p=>(p.1.map fun i=>(i,effsIn (effsOf ops) ((Region.before ops).getD i 0)),p.2)
theorem zed {K:St->Prop}{b:Array Nat}{effs:List Nat}{e:Nat}{es:List Nat}{done:Nat}{hs:List Heap}{tm:Tr Value}{ds:List Deferred}(ht:noTwin b es=true)
  (h:EvS P ok x ops base ((schedGo ops.size b effs (e :: es) done).map fun p=>(p.1.map fun i=>(i,effsIn effs (b.getD i 0)),p.2)) hs tm ds K) :
  Upon (fun n=>dstage P ok n x ops b effs base (e :: es) done hs tm ds) K:=by
 obtain⟨G,gs,o,rfl,ho,h⟩:=h;have ho':ops[e]?=some o:=by simpa using ho
 obtain⟨tm1,H1,en,hk⟩:=z3h _ _ _ h;rcases hk with ⟨hw,hk⟩|⟨hw,hk⟩
 ·refine Upon.go (fun n=>?_) (z4z es _ _ _ ds ht hk);rw[dstage];simp only at en;simp only[en,ho',hw];cases o.dst<;>rfl
 ·refine Upon.step (fun n r=>match r with|.val v ds1 H2=>ddraw P ok n x ops b effs base es (done ||| b.getD e 0 ||| 2 ^ e) (H2 :: G :: gs) (putD tm1 o.dst v) ds1|_=>none) (fun n r hr=>?_) hk ?_
  ·rw[dstage];simp only at en;simp only[en,ho',hw,hr];cases r<;>cases o.dst<;>rfl
  ·rintro r ⟨v,ds1,H2,rfl,hk⟩;exact z4z es _ _ _ ds1 ht hk
theorem z7s:∀(L:List Value),(∀v∈L,cellEq v v=true)->cellsEq L L=true
 |[],_=>rfl
 |v :: L,h=>by rw[cellsEq,h v (by simp),z7s L fun u hu=>h u (by simp [hu])];rfl
theorem z9o {L:List Value}{e:TypeId}(h:∀v∈L,cellEq v v=true):blkEq (some (.row L e)) (some (.row L e))=true:=by
 show (Zs e e && cellsEq L L)=true;rw[z7s L h,Nat.beq_refl];rfl
theorem zph {p q:Nat}{st st':St}(ht:(ops.toList.all fun o=>match o.dst with|some d=>slotEq (st.tm.get d) (st'.tm.get d)|none=>true)=true) (hH:∀n,st'.H.get n=st.H.get n)
  (hp:blkEq (st.H.get p) (st.H.get p)=true) (hq:blkEq (st.H.get q) (st.H.get q)=true) (hb:∀i,i < ops.size->blkEq (st.H.get (base+i)) (st.H.get (base+i))=true):agree ops base p q st st'=true:=by
 unfold agree;simp only[hH];refine Bool.and_eq_true_iff.2 ⟨Bool.and_eq_true_iff.2 ⟨Bool.and_eq_true_iff.2 ⟨ht,hp⟩,hq⟩,?_⟩;rw[List.all_eq_true];intro i hi;exact hb i (List.mem_range.1 hi)
def stB (ops:Array Oper) (e:Nat) (tm:Tr Value):Option Nat:=match ops[e]? with
 |some o=>stBlk o (ev tm)
 |none=>none
theorem ztb {K:St->Prop}{b:Array Nat}{effs:List Nat}{e f:Nat}{done p q:Nat}{G:Heap}{gs:List Heap}{tm:Tr Value}{ds:List Deferred}(ht:twin b [e,f]=some (e,f))
  (hp:EvN P ops base (G :: gs) ((pending (Zh ops.size) effs (b.getD e 0) done).map fun i=>(i,effsIn effs (b.getD i 0))) tm G fun t _=>stB ops e t=some p)
  (hq:EvN P ops base (G :: gs) ((pending (Zh ops.size) effs (b.getD f 0) done).map fun i=>(i,effsIn effs (b.getD i 0))) tm G fun t _=>stB ops f t=some q)
  (h:EvS P ok x ops base ((schedGo ops.size b effs [e,f] done).map fun p=>(p.1.map fun i=>(i,effsIn effs (b.getD i 0)),p.2)) (G :: gs) tm ds fun st =>
   EvS P ok x ops base ((schedGo ops.size b effs [f,e] done).map fun p=>(p.1.map fun i=>(i,effsIn effs (b.getD i 0)),p.2)) (G :: gs) tm ds fun st'=>agree ops base p q st st'=true/\K st) :
  EvDr P ok x ops b effs base [e,f] done (G :: gs) tm ds K:=by
 obtain⟨N,st,h1,h⟩:=zed (by rfl) h;obtain⟨N2,st',h2,hag,hk⟩:=zed (by rfl) h;obtain⟨t1,G1,e1,k1⟩:=z3h _ _ _ hp;obtain⟨t2,G2,e2,k2⟩:=z3h _ _ _ hq;have hd:dtwin P ops b effs base done (G :: gs) tm e f=some (p,q):=by
  unfold dtwin;unfold stB at k1 k2;simp only[e1,e2];cases ho:ops[e]? with
  |none=>rw[ho] at k1;cases k1
  |some o =>
   cases ho2:ops[f]? with
   |none=>rw[ho2] at k2;cases k2
   |some o2 =>
    rw[ho] at k1;rw[ho2] at k2;simp only at k1 k2;simp only[k1,k2]
 refine⟨max N N2+1,st,fun n hn=>?_,hk⟩;obtain⟨m,rfl⟩:∃m,n=m+1:=⟨n - 1,by omega⟩
 show ddraw P ok (m+1) x ops b effs base [e,f] done (G :: gs) tm ds=_;rw[ddraw];simp only[ht,h1 m (by omega),h2 m (by omega),hd,hag,if_true]
theorem EvC.drwT {id a e f:Nat}{tm:Tr Value}{ds:List Deferred}{H:Heap}{Q:Ex->St->Prop}(L0 Le Lf:List (Nat × Nat)) (S1 S2:List (List (Nat × Nat) × Option Nat)) (done:Nat) (hE:effsOf ops=[a,e,f]) (ht:twin (Region.before ops) [e,f]=some (e,f))
  (h0:(pending (Zh ops.size) (effsOf ops) ((Region.before ops).getD a 0) 0).map (fun i=>(i,effsIn (effsOf ops) ((Region.before ops).getD i 0)))=L0) (hdn:0 ||| (Region.before ops).getD a 0 ||| 2 ^ a=done)
  (h1:stgs ops [e,f] done=S1) (h2:stgs ops [f,e] done=S2)
  (he:(pending (Zh ops.size) (effsOf ops) ((Region.before ops).getD e 0) done).map (fun i=>(i,effsIn (effsOf ops) ((Region.before ops).getD i 0)))=Le)
  (hf:(pending (Zh ops.size) (effsOf ops) ((Region.before ops).getD f 0) done).map (fun i=>(i,effsIn (effsOf ops) ((Region.before ops).getD i 0)))=Lf)
  (h:ES P ok x ops H.next [(L0,some a),([],none)] ⟨H.next+ops.size,H.t⟩ [] tm ds fun tm1 ds1 H1=>∃p q,
   ES P ok x ops H.next [(Le,none)] H1 [⟨H.next+ops.size,H.t⟩] tm1 ds1 (fun t _ _=>stB ops e t=some p)/\ES P ok x ops H.next [(Lf,none)] H1 [⟨H.next+ops.size,H.t⟩] tm1 ds1 (fun t _ _=>stB ops f t=some q) /\
   ES P ok x ops H.next S1 H1 [⟨H.next+ops.size,H.t⟩] tm1 ds1 fun tm2 ds2 H2=>ES P ok x ops H.next S2 H1 [⟨H.next+ops.size,H.t⟩] tm1 ds1 fun tm3 ds3 H3=>agree ops H.next p q ⟨tm2,ds2,H2⟩ ⟨tm3,ds3,H3⟩=true/\Q .normal ⟨tm2,ds2,H2⟩) :
  EvC P ok x (.region id ops true) ⟨tm,ds,H⟩ Q:=by
 subst h0 h1 h2 he hf;have h':=EvS.of_ES _ _ _ _ _ h;have key:EvDr P ok x ops (Region.before ops) (effsOf ops) H.next [a,e,f] 0 [⟨H.next+ops.size,H.t⟩] tm ds (Q .normal):=by
  refine Upon.go (f:=fun n=>dstage P ok n x ops (Region.before ops) (effsOf ops) H.next [a,e,f] 0 [⟨H.next+ops.size,H.t⟩] tm ds) (fun n=>by rw[ddraw];rfl) ?_;obtain⟨G,gs,o,hG,ho,h'⟩:=h';cases hG;have ho':ops[a]?=some o:=by simpa using ho
  obtain⟨tm1,H1,en,hk⟩:=z3h _ _ _ h';have fin:∀(tm2:Tr Value) (ds2:List Deferred) (H2:Heap),EvS P ok x ops H.next [([],none)] [H2,⟨H.next+ops.size,H.t⟩] tm2 ds2 (fun st=>∃p q,
    ES P ok x ops H.next [((pending (Zh ops.size) (effsOf ops) ((Region.before ops).getD e 0) done).map (fun i=>(i,effsIn (effsOf ops) ((Region.before ops).getD i 0))),none)] st.H [⟨H.next+ops.size,H.t⟩] st.tm st.ds (fun t _ _=>stB ops e t=some p) /\
    ES P ok x ops H.next [((pending (Zh ops.size) (effsOf ops) ((Region.before ops).getD f 0) done).map (fun i=>(i,effsIn (effsOf ops) ((Region.before ops).getD i 0))),none)] st.H [⟨H.next+ops.size,H.t⟩] st.tm st.ds (fun t _ _=>stB ops f t=some q) /\
    ES P ok x ops H.next (stgs ops [e,f] done) st.H [⟨H.next+ops.size,H.t⟩] st.tm st.ds fun tm2 ds2 H2=>ES P ok x ops H.next (stgs ops [f,e] done) st.H [⟨H.next+ops.size,H.t⟩] st.tm st.ds fun tm3 ds3 H3=>agree ops H.next p q ⟨tm2,ds2,H2⟩ ⟨tm3,ds3,H3⟩=true/\Q .normal ⟨tm2,ds2,H2⟩) ->
    EvDr P ok x ops (Region.before ops) (effsOf ops) H.next [e,f] done [H2,⟨H.next+ops.size,H.t⟩] tm2 ds2 (Q .normal):=by
   rintro tm2 ds2 H2 ⟨G,gs,hG,p,q,hp,hq,hst⟩;cases hG;refine ztb (p:=p) (q:=q) ht ?_ ?_ ?_
   ·obtain⟨G,gs,hG,r⟩:=EvS.of_ES _ _ _ _ _ hp;cases hG;exact r
   ·obtain⟨G,gs,hG,r⟩:=EvS.of_ES _ _ _ _ _ hq;cases hG;exact r
   ·refine EvS.mono ?_ _ _ _ _ (EvS.of_ES _ _ _ _ _ hst);intro st hst;exact EvS.of_ES _ _ _ _ _ hst
  rcases hk with ⟨hw,hk⟩|⟨hw,hk⟩
  ·refine Upon.go (fun n=>?_) (fin _ _ _ hk);rw[dstage];(try simp only at en);simp only[en,ho',hw,hdn];cases o.dst<;>rfl
  ·refine Upon.step (fun n r=>match r with|.val v ds1 H2=>ddraw P ok n x ops (Region.before ops) (effsOf ops) H.next [e,f] (0 ||| (Region.before ops).getD a 0 ||| 2 ^ a) (H2 :: [⟨H.next+ops.size,H.t⟩]) (putD tm1 o.dst v) ds1|_=>none) (fun n r hr=>?_) hk ?_
   ·rw[dstage];(try simp only at en);simp only[en,ho',hw,hr];cases r<;>cases o.dst<;>rfl
   ·rintro r ⟨v,ds1,H2,rfl,hk⟩;rw[hdn];exact fin _ _ _ hk
 refine Upon.step (fun n st1=>some (.normal,st1)) (fun n r hr=>?_) key ?_
 ·have e:dcode P ok (n+1) x (.region id ops true) ⟨tm,ds,H⟩=(match ddraw P ok n x ops (Region.before ops) (effsOf ops) H.next (effsOf ops) 0 [⟨H.next+ops.size,H.t⟩] tm ds with
    |some st1=>some (.normal,st1)
    |none=>match dpan P (dcall P ok n) (fun es done hs tm=>ddraw P ok n x ops (Region.before ops) (effsOf ops) H.next es done hs tm ds) ops (Region.before ops) (effsOf ops) H.next ⟨H.next+ops.size,H.t⟩ tm with
     |some (ch,H')=>some (.panic ch,⟨clr ops tm,ds,H'⟩)
     |none=>none):=by
   rw[dcode];rfl
  rw[hE] at hr;rw[e,hE,hr]
 ·intro r hq;exact⟨0,_,fun n _=>rfl,hq⟩
end
end Go.Hb
end

section
namespace Go.Proofs.hq
open Go Go.RowKit Go.Hb
variable {ok:Ok}
set_option maxRecDepth 10000
attribute [local irreducible] LX LG EL STG SOP SGO SGD SAL SRD SEF SEG SLK SCK ES
abbrev zero6s:List Value:=[.int .i64 0,.string ⟨#[]⟩,.string ⟨#[]⟩,.int .u64 0,.int .i64 0,.slice none 0 0]
noncomputable def posT (l:List Tm) (t:Tm):Nat:=l.findIdx fun x=>eqT t x
noncomputable def putT (l:List Tm) (t:Tm):List Tm:=if posT l t < l.length then l else l++[t]
theorem ztc (l:List Tm) (k:Tm):(putT l k)[posT l k]?=some k:=by
 unfold putT;split
 ·rename_i h;have:=List.findIdx_getElem (w:=h);rw[Zc h];exact congrArg some (z77.1 this).symm
 ·rename_i h;have h0:posT l k=l.length:=Nat.le_antisymm List.findIdx_le_length (by omega);rw[h0,ZC (Ze _),Nat.sub_self];rfl
theorem zb1 {l:List Tm}{k:Tm}(h:l.Nodup):(putT l k).Nodup:=by
 unfold putT;split
 ·exact h
 ·rename_i hn;refine List.nodup_append.2 ⟨h,List.nodup_cons.2 ⟨ZF,List.nodup_nil⟩,fun a ha b hb e=>?_⟩;rw[List.mem_singleton.1 hb] at e;exact hn (List.findIdx_lt_length.2 ⟨a,ha,z77.2 e.symm⟩)
theorem zi1 (l:List Tm) (k:Tm):∃r,putT l k=l++r:=by
 unfold putT;split
 ·exact⟨[],by simp⟩
 ·exact⟨_,rfl⟩
theorem zi2 (l:List Tm) (k:Tm):(putT l k).length<=l.length+1:=by
 unfold putT;split
 ·omega
 ·simp
section
variable {H H':Heap}{B p:Nat}{σ σ':MS}{rs:List (List Value)}
theorem MkA.seen (h:MkA H B p σ rs) {cl ts:List (List Value)}{V:List Value}{sv:Value}(hs:StR H B p 58 (mFlds σ cl ts rs) V) (hV:V[10]?=some sv):∃o,sv=.map o:=by
 cases hq:σ.seen with
 |none =>
  have hF:(mFlds σ cl ts rs)[10]?=some (.vl (.map none)):=by show some (sFld σ.seen)=_;rw[hq];rfl
  exact⟨none,(hs.fld 10 _ _ hF hV).1⟩
 |some M =>
  have hF:(mFlds σ cl ts rs)[10]?=some (.mp (seenM M)):=by show some (sFld σ.seen)=_;rw[hq];rfl
  obtain⟨r,-,-,e,-⟩:=hs.fld 10 _ _ hF hV;exact⟨some r,e⟩
set_option maxHeartbeats 8000000 in
theorem zna (h:MkA H B p σ rs) (hw:H.wf) {t:Tm}{a:Option Addr}{c:Nat}(r:RepS H (OffK H p rs) t (six t a c)) (hm:σ.consts.length+1<=most) :
  EvF Tryz.prog okT 70 [.pointer (some ⟨p,5,none⟩),.agg ⟨six t a c⟩,ksv] H fun v H'=>v=.int .i64 (posT σ.consts t:Nat)/\MkA H' B p { σ with consts:=putT σ.consts t } rs/\KX H H' p rs rs/\H'.wf/\Same2 H H' p:=by
 refine EvF.enter rfl Tryz.func70 (by decide) rfl ?_;(repeat refine qZa ?_);refine qZb ?_;simp (config:=qZc) (disch:=first|omega|rfl) only[sB,initTm,dBox,Za,Zb,Value.cells,one,reduceCtorEq];obtain⟨H1,e1,hx1,g1,n1,w1⟩:=new1 hw (.row (six t a c) 28);simp only[e1];clear e1;obtain⟨h1,kx1⟩:=h.keep hw hx1;obtain⟨a2,c2,a4,c4,a5,c5,a6,c6,a7,c7,a8,c8,a9,c9,sv,cl,ts,hs,ht,hc,l0,l1,l2,l3,l4,l5,l6,l7,l8,l9,l10,l11,b2,b4,b5,b6,b7,b8,b9⟩:=h1.open;have hmx:σ.consts.length<=9223372036854775807:=by have:=b5.1;have:=b5.2;unfold maxLen at *;omega
 repeat' (first|refine qZa ?_|refine qZg ?_|(refine qZb ?_;simp (config:=qZc) (disch:=first|omega|rfl) only[sB,Za,reduceCtorEq,ld26,ln26,z0d,z0o,l5]))
 refine qZk (fun k' st=>∃tm G i,st=⟨tm,[],G⟩/\k'=σ.consts.length - i/\i<=σ.consts.length/\(∀j (hj:j < i) (hl:j < σ.consts.length),t≠σ.consts[j]) /\
   tm.get 0=some (.pointer (some ⟨p,5,none⟩))/\tm.get 2=some ksv/\tm.get 4=some (.pointer (some ⟨H.next,0,none⟩))/\tm.get 11=some (.slice a5 σ.consts.length c5)/\tm.get 12=some (.int .i64 (σ.consts.length:Nat))/\tm.get 13=some (.int .i64 (i:Nat))/\HX H1 G) ?_ σ.consts.length _ ?_
 rotate_left
 ·exact⟨_,_,0,rfl,rfl,by omega,fun j hj=>absurd hj (Nat.not_lt_zero _),(by simp only[sG,reduceCtorEq]),(by simp only[sG,Za,reduceCtorEq]),(by simp only[sG,Za,reduceCtorEq]),(by simp only[sG,Za,reduceCtorEq]),(by simp only[sG,Za,reduceCtorEq]),(by simp only[sB,Za,reduceCtorEq];rfl),HX.refl w1⟩
 rintro k' st ⟨tm,G,i,rfl,rfl,hi,hall,t0,t2,t4,t11,t12,t13,hxG⟩;have wG:=hxG.wf;have q1:=row6 (hxG.get w1 g1);by_cases hlt:i < σ.consts.length
 ·obtain⟨csi,hci,ri⟩:=ht.2 i _ (Zc hlt);obtain⟨ai,ki,cellsi,rfl,-⟩:=ri.rep.six;obtain⟨b,rfl,o,ld⟩:=hs.el (i:=5) (k:=i) rfl rfl hci;have ldG:=hxG.load w1 ld;obtain⟨G1,eG1,hxG1,gG1,nG1,wG1⟩:=z0m wG (.row zero6 28) (.row (six σ.consts[i] ai ki) 28);have q3:=row6 gG1;have q1':=row6 (hxG1.get wG (hxG.get w1 g1))
  repeat' (first|refine qZa ?_|refine qZg ?_|(refine qZe ?_;try simp only[z00])|(refine qZb ?_;simp (config:=qZc) (disch:=first|omega|rfl) only[sB,dAlloc,Za,Zb,one,ia26,ld28,zr28,st28,t2,t4,t11,t12,t13,decl hlt,ldG,eG1,q1',q3,z2s,z1u zr6])|(refine qZd ?_ ?_;simp (config:=qZc) (disch:=first|omega|rfl) only[sB];refine z02 ?_))
  have hxx1:=hxG.trans hxG1;refine(zhx (SizeOf.sizeOf t+1) t σ.consts[i] _ _ G1 (Zf _) ((r.rep.mono hx1 hw).mono hxx1 w1) (ri.rep.mono hxx1 w1) wG1).mono ?_;rintro v G2 ⟨rfl,hxG2⟩;have hxx:=hxx1.trans hxG2;by_cases he:t=σ.consts[i]
  ·have hp:posT σ.consts t=i:=(List.findIdx_eq hlt).2 ⟨z7v he,fun j hj=>z2e (hall j hj _)⟩;have hpu:putT σ.consts t=σ.consts:=by unfold putT;rw[hp,if_pos hlt]
   repeat' (first|refine qZa ?_|(refine qZf ?_;try simp only[z06,z01])|(refine qZb ?_;simp (config:=qZc) (disch:=first|omega|rfl) only[sB,Za,z7v he])|(refine qZd ?_ ?_;simp (config:=qZc) (disch:=first|omega|rfl) only[sB,Za,z7v he];refine z02 ?_))
   obtain⟨h2,kx2⟩:=h1.keep w1 hxx;refine z03 rfl (by simp only[sB,Za];rfl) ⟨by rw[hp],?_,kx1.trans kx2,hxx.wf,(hx1.trans hxx).same2 (h.lt hw)⟩;rw[hpu];exact h2
  ·repeat' (first|(refine qZe ?_;try simp only[sA,z2e he])|(refine qZb ?_;simp (config:=qZc) (disch:=first|omega|rfl) only[sB,Za,t13,z0c])|(refine qZm ?_ ?_;simp (config:=qZc) (disch:=first|omega|rfl) only[sB,Za,z2e he];refine z02 ?_))
   exact⟨σ.consts.length - (i+1),by omega,_,_,i+1,rfl,rfl,by omega,fun j hj hl=>by
    by_cases hji:j=i
    ·subst hji;exact he
    ·exact hall j (by omega) hl,(by simp only[sG,reduceCtorEq,t0]),(by simp only[sG,Za,t2]),(by simp only[sG,Za,t4]),(by simp only[sG,Za,t11]),(by simp only[sG,Za,t12]),(by simp only[sB,Za];rfl),hxx⟩
 ·have hp:posT σ.consts t=σ.consts.length:=List.findIdx_eq_length.2 fun x hx=>by
   obtain⟨j,hj,rfl⟩:=ZO hx;exact z2e (hall j (by omega) hj)
  have hpu:putT σ.consts t=σ.consts++[t]:=by unfold putT;rw[hp,if_neg (Nat.lt_irrefl _)]
  have l5':=hxG.load w1 l5
  repeat' (first|refine qZa ?_|(refine qZi ?_;try simp only[sB])|(refine qZb ?_;simp (config:=qZc) (disch:=first|omega|rfl) only[sA,t12,t13,decn hlt])|(refine qZm ?_ ?_;simp (config:=qZc) (disch:=first|omega|rfl) only[sB];refine z02 ?_))
  refine EvC.drwT [(0,0),(1,0),(2,0),(3,0),(4,0),(5,0)] [(7,1)] [(9,1)] [([(7,1)],some 8),([(9,1)],some 10),([],none)] [([(9,1)],some 10),([(7,1)],some 8),([],none)] 127 (a:=6) (e:=8) (f:=10) (by kernel_rfl) (by kernel_rfl) (by kernel_rfl) (by kernel_rfl) (by kernel_rfl) (by kernel_rfl) (by kernel_rfl) (by kernel_rfl) ?_;obtain⟨H6,e6,hx6,g6,w6⟩:=zl1 wG 11 5 (by omega) (.row zero6s 28);have hsG:=hs.keep w1 hxG;have h6:=hsG.keep wG hx6;have hB6:B<=H6.next:=Zj h6.ge (Nat.le_of_lt (h6.lt w6));obtain⟨H7,cz,e7,o7,n7,w7,k7,r7'⟩:=(h6.fld 5 _ _ rfl rfl).push (P:=Tryz.prog) (t:=26) (c1:=1) w6 ap26 (row6 g6).2.2.2.2.2.2 rfl rfl (by rw[ht.1];exact hm) hB6;rw[ht.1] at e7;obtain⟨cs,gc,hle,-⟩:=o7.row;have hlen:(ts++[zero6s]).length=σ.consts.length+1:=by rw[Zr,ht.1];rfl
  have o8:=o7.set gc (i:=σ.consts.length) (y:=six t a c) (by rw[hlen];omega) rfl rfl;have es:(ts++[zero6s]).set σ.consts.length (six t a c)=ts++[six t a c]:=by
   rw[<-ht.1,List.set_append_right _ _ (Ze _),Nat.sub_self];rfl
  rw[es] at o8;obtain⟨H8,e8⟩:∃H8,H7.put H6.next (some (.row (Hb.splice cs (σ.consts.length*6) (six t a c)) 28))=H8:=⟨_,rfl⟩
  have w8:H8.wf:=by rw[<-e8];exact((HK.refl (S:=fun n=>n=H6.next) w7).put (.inl rfl) (by omega) _).wf
  have n8:H8.next=H7.next:=by rw[<-e8];rfl
  have p8:=h6.put w6 (H2:=H8) w8 (by omega) (i:=5) rfl (fun n hn hne=>by rw[<-e8,get_put,if_neg (by omega)];exact k7 n hn hne) (f':=.sl 28 6 (ts++[six t a c])) (v':=.slice (some ⟨H6.next,0,none⟩) (σ.consts.length+1) cz)
   (.inr ⟨H6.next,cz,e8 ▸ o8,by rw[Zr,ht.1];rfl⟩) (fun n hn=>.inr (by cases hn;exact Ze _)) rfl
  obtain⟨s9,x9⟩:=p8;simp only[List.set_cons_zero,List.set_cons_succ] at s9 x9;obtain⟨H9,e9⟩:∃H9,H8.put p (some (.row [.string σ.key.1,.int .i64 σ.key.2,.slice a2 σ.clauses.length c2,.bool σ.index,.slice a4 σ.ins.length c4,.slice (some ⟨H6.next,0,none⟩) (σ.consts.length+1) cz,.slice a6 σ.funs.length c6,.slice a7 σ.starts.length c7,.slice a8 σ.rows.length c8,.slice a9 σ.rest.length c9,sv,.int .i64 σ.marks] 58))=H9:=⟨_,rfl⟩
  rw[e9] at s9 x9;have hs6':=h6.lt w6;have hle':σ.consts.length*6+6<=cs.length:=by rw[hlen] at hle;omega
  have gs8:H8.get p=_:=(show H8.get p=H6.get p by rw[<-e8,get_put,if_neg (by omega)];exact k7 p hs6' (h6.off 5 _ rfl)).trans h6.obj;have ne1:(H6.next=p)=False:=eq_false (by omega);have ne2:(p=H6.next)=False:=eq_false (by omega);have gs7:H7.get p=_:=(k7 p hs6' (h6.off 5 _ rfl)).trans h6.obj;have sx:=((hxG.trans hx6).sx (hs.lt w1)).trans x9;have hofn:∀n,OffK H1 p rs n->H9.get n=H1.get n:=fun n hn=>sx.hk.keep n hn.1 fun q=>hn.2 (.inl q)
  simp (config:=qZc) (disch:=first|omega|rfl) only[sD,sB,Za,Zb,Value.cells,one,reduceCtorEq,layC,ld26,ln26,ia26,ld28,st28,zah,st26,z0d,z0o,t0,t4,l5',q1,e6,e7,isAlloc,isRead,dalloc];refine⟨H6.next,p,?_,?_,?_⟩
  ·simp only[sB,stB,List.getElem?_toArray,stBlk,Za]
  ·simp only[sB,stB,List.getElem?_toArray,stBlk,Za]
  simp (config:=qZc) (disch:=first|omega|rfl) only[sD,sB,Za,Zb,one,Zq,ia26,st28,st26,z0d,z0o,gc,hle',gs7,gs8,ne1,e8,e9,isAlloc,isRead,zaf];refine⟨?_,?_⟩
  ·refine zph ?_ (fun n=>?_) ?_ ?_ (fun i hi=>?_)
   ·simp only[sV,sB,slotEq,cellEq,Bool.true_or,Za]
   ·show ((H7.put p _).put H6.next _).get n=H9.get n;rw[<-e9,<-e8];simp only[get_put];by_cases q1:n=p
    ·rw[if_neg (by omega),if_pos q1,if_pos q1]
    ·by_cases q2:n=H6.next
     ·rw[if_pos q2,if_neg q1,if_pos q2]
     ·rw[if_neg q2,if_neg q1,if_neg q1,if_neg q2]
   ·show blkEq (H9.get H6.next) (H9.get H6.next)=true;have:H9.get H6.next=some (.row (ts++[six t a c]).flatten 28):=by
     rw[<-e9,get_put,if_neg (by omega),<-e8,get_put,if_pos rfl];rw[r7'] at gc;cases gc;rw[zbl (s:=6) (ts++[zero6s]) σ.consts.length (six t a c) (fun x hx=>o7.sz x hx) rfl (by rw[hlen];omega),es]
    rw[this];refine z9o fun v hv=>?_
    obtain⟨l,h1,h2⟩:=List.mem_flatten.1 hv;obtain⟨u,a',c',rfl⟩:∃u a' c',l=six u a' c':=by
     rcases List.mem_append.1 h1 with h1|h1
     ·obtain⟨j,hj,rfl⟩:=ZO h1;obtain⟨x,hx,rx⟩:=ht.2 j _ (Zc (by rw[<-ht.1];exact hj));rw[Zc hj] at hx;obtain⟨ax,kx,-,e,-⟩:=rx.rep.six;exact⟨_,ax,kx,(Option.some.inj hx).trans e⟩
     ·rw[List.mem_singleton] at h1;exact⟨t,a,c,h1⟩
    simp only[six,List.mem_cons,ZF,or_false] at h2;rcases h2 with rfl|rfl|rfl|rfl|rfl|rfl<;>simp [cellEq,veq]
   ·show blkEq (H9.get p) (H9.get p)=true;rw[s9.obj];obtain⟨o,rfl⟩:=h1.seen hs rfl;refine z9o fun v hv=>?_
    simp only[List.mem_cons,ZF,or_false] at hv;rcases hv with rfl|rfl|rfl|rfl|rfl|rfl|rfl|rfl|rfl|rfl|rfl|rfl<;>simp [cellEq,veq]
   ·show blkEq (H9.get (G.next+i)) (H9.get (G.next+i))=true;have n6:H6.next=G.next+11:=by rw[<-e6];rfl
    have hi':i < 11:=hi;have hv5:blkOf (.slice a5 σ.consts.length c5)≠some (G.next+i):=fun q=>by
     have:=((hsG.fld 5 _ _ rfl rfl).lo q).2;omega
    have hs5:=hsG.lt wG;have e:H9.get (G.next+i)=H6.get (G.next+i):=by
     rw[<-e9,get_put,if_neg (by omega),<-e8,get_put,if_neg (by omega)];exact k7 _ (by omega) hv5
    rw[e,<-e6,get_put];split
    ·refine z9o fun v hv=>?_
     simp only[List.mem_cons,ZF,or_false] at hv;rcases hv with rfl|rfl|rfl|rfl|rfl|rfl<;>simp [cellEq,veq]
    ·have:Heap.get ⟨G.next+11,G.t⟩ (G.next+i)=none:=by
      cases hq:G.get (G.next+i) with
      |none=>exact hq
      |some D=>exact absurd (wG _ _ hq) (by omega)
     rw[this];rfl
  ·have l5x:=s9.load (i:=5) rfl
   repeat' (first|refine qZa ?_|(refine qZf ?_)|(refine qZb ?_;simp (config:=qZc) (disch:=first|omega|rfl) only[sB,Za,reduceCtorEq,ld26,ln26,z0d,z0o,t0,l5x,zpf (Zj b5.1 b5.2)]))
   have hT:∀S:Nat->Prop,(∀n,OffK H1 p rs n->S n)->TmsR H9 S (putT σ.consts t) (ts++[six t a c]):=fun S q1=>by
    rw[hpu];refine⟨by rw[Zr,Zr,ht.1];rfl,fun i x hx=>?_⟩;by_cases hi:i < σ.consts.length
    ·rw[Zz hi] at hx;obtain⟨cs',k1,k2⟩:=ht.2 i x hx;exact⟨cs',by rw[Zz (by rw[ht.1];exact hi)];exact k1,k2.to fun n hn hl=>⟨hofn n hn,q1 n hn,Zi hl sx.next⟩⟩
    ·rw[ZC (by omega)] at hx;obtain rfl:i=σ.consts.length:=by
      have:=(List.getElem?_eq_some_iff.1 hx).1;simp only[ZD,List.length_nil] at this;omega
     rw[Nat.sub_self] at hx;cases hx;refine⟨six t a c,by rw[<-ht.1,ZC (Ze _),Nat.sub_self];rfl,r.to fun n hn hl=>?_⟩;have hn1:=(kx1.off hn).2.1;exact⟨(hofn n hn1).trans (kx1.off hn).1,q1 n hn1,Zi hn1.1 sx.next⟩
   obtain⟨h9,kx9⟩:=h1.turn (σ':={ σ with consts:=putT σ.consts t }) w1 (by rw[hpu];simpa [mFlds] using s9) sx rfl (fun S q1 _=>hT S q1) fun S q1 _=>hc.to fun n hn hl=>⟨hofn n hn,q1 n hn,Zi hl sx.next⟩
   exact z03 rfl (by simp only[sB,Za];rfl) ⟨by rw[hp],h9,kx1.trans kx9,sx.wf,((s9.load (i:=2) rfl).trans l2.symm).trans (hx1.same2 (h.lt hw))⟩
end
section
variable {H H':Heap}{B p:Nat}{σ σ':MS}{rs:List (List Value)}
theorem MutK.back {n:Nat}(h:HX H H') (hp:p < H.next) (q:MutK H' p rs n):MutK H p rs n:=by
 rcases q with (q|⟨V,T,hg,q⟩)|q
 ·exact .inl (.inl q)
 ·exact .inl (.inr ⟨V,T,(h.keep p hp).symm.trans hg,q⟩)
 ·exact .inr q
theorem MkA.fresh (h:MkA H B p σ rs) (hw:H.wf) (hx:HX H H') {n:Nat}(h1:H.next<=n) (h2:n < H'.next):OffK H' p rs n:=⟨h2,fun q=>by
 have:=h.hi hw (MutK.back hx (h.lt hw) q);omega⟩
set_option maxHeartbeats 4000000 in
theorem z9p (h:MkA H B p σ rs) (hw:H.wf) {t:Tm}{cs:List Value}(r:RepT H t cs) (hc:checkS t=0) (hm:σ.consts.length+1<=most) :
  EvF Tryz.prog okT 43 [ptr p,.agg ⟨cs⟩] H fun v H'=>v=.int .i64 (posT σ.consts t:Nat)/\MkA H' B p { σ with consts:=putT σ.consts t } rs/\KX H H' p rs rs/\H'.wf/\Same2 H H' p:=by
 obtain⟨a,c,cells,rfl,-⟩:=r.six;refine EvF.enter rfl Tryz.func43 (by decide) rfl ?_;(repeat refine qZa ?_);refine qZb ?_;simp (config:=qZc) (disch:=first|omega|rfl) only[sB,initTm,dBox,Value.cells,one,reduceCtorEq];obtain⟨H1,e1,hx1,g1,n1,w1⟩:=new1 hw (.row (six t a c) 28);simp only[e1];clear e1;obtain⟨H2,e2,hx2,w2⟩:=z3l w1 8;have hx12:=hx1.trans hx2;obtain⟨h2,kx2⟩:=h.keep hw hx12;have q1:=row6 (hx2.get w1 g1)
 repeat' (first|refine qZa ?_|(refine qZj [([(4,0)],some 5),([(0,0),(1,0),(2,0),(3,0)],some 6),([(7,2)],none)] ?_ ?_;kernel_rfl;simp (config:=qZc) (disch:=first|omega|rfl) only[sD,sB,Za,Zb,reduceCtorEq,ld28,cl14,q1,e2,isAlloc,isRead]))
 refine(zca (r.mono hx12 hw) w2).mono ?_;rintro v H3 ⟨hx3,u,a3,c3,rfl,hr⟩;obtain⟨rfl,hr⟩:=hr hc;obtain⟨h3,kx3⟩:=h2.keep w2 hx3
 repeat' (first|(refine z0p ?_;simp (config:=qZc) (disch:=first|omega|rfl) only[sD,sB,Za,reduceCtorEq,z2w,zl8,cl70,z0d,z0o,isAlloc,isRead,zaf]))
 refine(zna h3 hx3.wf (hr.to fun n hn hl=>⟨rfl,h2.fresh w2 hx3 hn.1 hn.2,hl⟩) hm).mono ?_;rintro v H4 ⟨rfl,h4,kx4,w4,sm4⟩
 repeat' (first|(refine qZf ?_)|(refine z0p ?_;simp (config:=qZc) (disch:=first|omega|rfl) only[sD,sB,Za,Zb,reduceCtorEq,isAlloc,isRead]))
 exact z03 rfl (by simp only[sG,Za,reduceCtorEq]) ⟨rfl,h4,(kx2.trans kx3).trans kx4,w4,sm4.trans ((hx12.trans hx3).same2 (h.lt hw))⟩
structure Room (σ:MS) (k:Nat):Prop where
 ins:σ.ins.length+k<=most
 cs:σ.consts.length+k<=most
 fs:σ.funs.length+k<=most
theorem Gr.room {k m:Nat}(h:Gr σ σ' k) (g:Room σ m) (hk:k<=m):Room σ' (m - k):=⟨by have:=h.ins;have:=g.ins;omega,by have:=h.cs;have:=g.cs;omega,by have:=h.fs;have:=g.fs;omega⟩
theorem Room.le {k m:Nat}(g:Room σ m) (hk:k<=m):Room σ k:=⟨by have:=g.ins;omega,by have:=g.cs;omega,by have:=g.fs;omega⟩
theorem Gr.op (x:List Value):Gr σ { σ with ins:=σ.ins++[x] } 1:={ Gr.refl.up (Zl 1) with ins0:=by simp,ins:=by simp }
theorem Gr.come (M:List (Int × Value)):Gr σ { σ with seen:=some M } 0:={ Gr.refl with sn:=fun _=>rfl }
theorem Gr.cst (t:Tm):Gr σ { σ with consts:=putT σ.consts t } 1:={ Gr.refl.up (Zl 1) with cs:=zi2 _ _,pc:=zi1 _ _,gc:=zb1 }
theorem Gr.fun (k:PK):Gr σ { σ with funs:=putK σ.funs k } 1:={ Gr.refl.up (Zl 1) with fs:=zi0 _ _,pf:=zhz _ _,gf:=zb0 }
theorem Gr.mark (z:Int):Gr σ { σ with marks:=z } 0:={ Gr.refl with }
theorem z5h (h:MkA H B p σ rs) (hw:H.wf) (o a b:Int) (hm:Room σ 1) :
  EvF Tryz.prog okT 38 [ptr p,.int .i64 o,.int .i64 a,.int .i64 b] H fun v H'=>v=.int .i64 (σ.ins.length:Nat)/\∃ σ',MkA H' B p σ' rs/\KX H H' p rs rs/\Gr σ σ' 1/\σ'.ins.length=σ.ins.length+1/\H'.wf :=
 (zvw h hw o a b hm.ins).mono fun _ _ ⟨h1,h2,h3,h4⟩=>⟨h1,_,h2,h3,Gr.op _,by simp,h4⟩
theorem zcb {l:List Tm}{i:Nat}(h:i < l.length):nd.ndL (l.take (i+1))=nd.ndL (l.take i)+nd l[i]:=by
 induction l generalizing i with
 |nil=>simp at h
 |cons x l ih =>
  cases i with
  |zero=>simp [nd.ndL]
  |succ i =>
   have:=ih (i:=i) (by simpa using h);simp only[List.take_succ_cons,nd.ndL,List.getElem_cons_succ];omega
theorem z60 {l:List Tm}(i:Nat):nd.ndL (l.take i)<=nd.ndL l:=by
 induction l generalizing i with
 |nil=>simp
 |cons x l ih =>
  cases i with
  |zero=>simp [nd.ndL]
  |succ i=>simp only[List.take_succ_cons,nd.ndL];have:=ih i;omega
set_option maxHeartbeats 16000000 in
theorem znb {H0:Heap}(hw0:H0.wf) (hB:H0.next<=B) (m:Nat):∀{t:Tm}{cs:List Value}{H:Heap}{σ:MS}(i w1 w2 w3 w4:Int),SizeOf.sizeOf t < m->MkA H B p σ rs->H.wf->RepT H0 t cs->HX H0 H->Fine t->nd t<=4000->σ.seen.isSome=true->Room σ (3*nd t) ->
  EvF Tryz.prog okT 39 [ptr p,.agg ⟨cs⟩,.int .i64 i,.int .i64 w1,.int .i64 w2,.int .i64 w3,.int .i64 w4] H fun _ H'=>∃ σ',MkA H' B p σ' rs/\KX H H' p rs rs/\Gr σ σ' (3*nd t)/\H'.wf:=by
 induction m with
 |zero=>intro t cs H σ i w1 w2 w3 w4 h;omega
 |succ m ih =>
 intro t cs H σ i w1 w2 w3 w4 hsz h hw r hx0 hf hnd hsn hroom;obtain⟨a,c,cells,rfl,b1,-,-,-,-,rl⟩:=r.six;have hnd1:=zc5 t;refine EvF.enter rfl Tryz.func39 (by decide) rfl ?_;(repeat refine qZa ?_);refine qZb ?_;simp (config:=qZc) (disch:=first|omega|rfl) only[sB,initTm,dBox,Za,Zb,Value.cells,one,reduceCtorEq];obtain⟨H1,e1,hx1,g1,n1,w1'⟩:=new1 hw (.row (six t a c) 28);simp only[e1];clear e1;obtain⟨h1,kx1⟩:=h.keep hw hx1;have q1:=row6 g1;have hoff:OffK H1 p rs H.next:=h.fresh hw hx1 (Ze _) (by omega);by_cases hv:t.kind=1
 ·repeat' (first|refine qZa ?_|refine qZg ?_|(refine qZb ?_;simp (config:=qZc) (disch:=first|omega|rfl) only[sB,Za,reduceCtorEq,z0i,ld3,z3e,cl40,q1,z0l hv])|(refine qZd ?_ ?_;simp (config:=qZc) (disch:=first|omega|rfl) only[sB,Za,reduceCtorEq];refine z02 ?_))
  refine(zhy h1 w1' hsn t.var).mono ?_;rintro v H2 ⟨b,M,rfl,h2,kx2,w2'⟩;have q2:=row6 ((kx2.off hoff).1.trans g1);cases b with
  |true =>
   repeat' (first|(refine qZb ?_;simp (config:=qZc) (disch:=first|omega|rfl) only[sB,Za,reduceCtorEq,ld3,z3e,cl38,q2])|(refine qZd ?_ ?_;simp (config:=qZc) (disch:=first|omega|rfl) only[sB,Za,reduceCtorEq];refine z02 ?_))
   refine(z5h h2 w2' _ _ _ ((Gr.come M).room hroom (Zl _) |>.le (by omega))).mono ?_;rintro v H3 ⟨rfl,σ3,h3,kx3,gr3,-,w3'⟩
   skip
   exact z0j rfl ⟨σ3,h3,(kx1.trans kx2).trans kx3,((Gr.come M).trans gr3).up (by omega),w3'⟩
  |false =>
   repeat' (first|(refine qZb ?_;simp (config:=qZc) (disch:=first|omega|rfl) only[sB,Za,reduceCtorEq,ld3,z3e,cl38,q2])|(refine qZm ?_ ?_;simp (config:=qZc) (disch:=first|omega|rfl) only[sB,Za,reduceCtorEq];refine z02 ?_))
   refine(z5h h2 w2' _ _ _ ((Gr.come M).room hroom (Zl _) |>.le (by omega))).mono ?_;rintro v H3 ⟨rfl,σ3,h3,kx3,gr3,-,w3'⟩
   skip
   exact z0j rfl ⟨σ3,h3,(kx1.trans kx2).trans kx3,((Gr.come M).trans gr3).up (by omega),w3'⟩
 by_cases hk:t.kind=5;rotate_left
 ·repeat' (first|refine qZa ?_|refine qZg ?_|(refine qZb ?_;simp (config:=qZc) (disch:=first|omega|rfl) only[sB,Za,reduceCtorEq,z0i,ld3,cl38,ld28,cl43,q1,z0g hv,z0g hk])|(refine qZm ?_ ?_;simp (config:=qZc) (disch:=first|omega|rfl) only[sB,Za,reduceCtorEq];refine z02 ?_))
  refine(z9p h1 w1' ((r.mono hx0 hw0).mono hx1 hw) (zhw hf hnd) (by have:=hroom.cs;omega)).mono ?_;rintro v H2 ⟨rfl,h2,kx2,w2',-⟩
  skip
  refine(z5h h2 w2' _ _ _ (((Gr.cst t).room hroom (by omega)).le (by omega))).mono ?_;rintro v H3 ⟨rfl,σ3,h3,kx3,gr3,-,w3'⟩
  skip
  exact z0j rfl ⟨σ3,h3,(kx1.trans kx2).trans kx3,((Gr.cst t).trans gr3).up (by omega),w3'⟩
 repeat' (first|refine qZa ?_|refine qZg ?_|(refine qZb ?_;simp (config:=qZc) (disch:=first|omega|rfl) only[sB,Za,reduceCtorEq,z0i,ld3,cl38,ld28,cl42,q1,z0g hv,z0l hk])|(refine qZd ?_ ?_;simp (config:=qZc) (disch:=first|omega|rfl) only[sB,Za,reduceCtorEq];refine z02 ?_)|(refine qZm ?_ ?_;simp (config:=qZc) (disch:=first|omega|rfl) only[sB,Za,reduceCtorEq];refine z02 ?_))
 refine(zfn h1 w1' t a c (by have:=hroom.fs;omega)).mono ?_;rintro v H2 ⟨rfl,h2,kx2,w2',-⟩
 skip
 refine(z5h h2 w2' _ _ _ (((Gr.fun (keyT t)).room hroom (by omega)).le (by omega))).mono ?_;rintro v H3 ⟨rfl,σ3,h3,kx3,gr3,-,w3'⟩;have kx13:=kx2.trans kx3;have q3:=row6 ((kx13.off hoff).1.trans g1);have gr03:=(Gr.fun (keyT t)).trans gr3
 repeat' (first|refine qZa ?_|refine qZg ?_|(refine qZb ?_;simp (config:=qZc) (disch:=first|omega|rfl) only[sB,Za,reduceCtorEq,z0u,ld26,ln26,q3]))
 have hmx:t.args.length<=9223372036854775807:=by have:=rl.max;unfold maxLen at *;omega
 have hnda:=z1f t;refine qZk (fun k' st=>∃tm G j σj,st=⟨tm,[],G⟩/\k'=t.args.length - j/\j<=t.args.length /\
   tm.get 0=some (ptr p)/\tm.get 53=some (.slice a t.args.length c)/\tm.get 54=some (.int .i64 (t.args.length:Nat))/\tm.get 55=some (.int .i64 (j:Nat))/\MkA G B p σj rs/\KX H G p rs rs/\Gr σ σj (2+3*nd.ndL (t.args.take j))/\G.wf) ?_ t.args.length _ ?_
 rotate_left
 ·exact⟨_,_,0,σ3,rfl,rfl,Zl _,(by simp only[sG,reduceCtorEq]),(by simp only[sG,Za,reduceCtorEq]),(by simp only[sG,Za,reduceCtorEq]),(by simp only[sB,Za,reduceCtorEq];rfl),h3,kx1.trans kx13,gr03.up (by omega),w3'⟩
 rintro k' st ⟨tm,G,j,σj,rfl,rfl,hj,t0,t53,t54,t55,hG,kxG,grG,wG⟩;have hxG:HX H0 G:=kxG.hx h hx0 hB;by_cases hlt:j < t.args.length
 ·obtain⟨b,o,aj,cj,rfl,hld,hrj⟩:=rl.el hlt;have ldG:=hxG.load hw0 hld;obtain⟨G1,eG1,hxG1,gG1,nG1,wG1⟩:=z0m wG (.row zero6 28) (.row (six t.args[j] aj cj) 28);have qG:=row6 gG1;obtain⟨hG1,kxG1⟩:=hG.keep wG hxG1;have e1:=zcb hlt;have e2:=z60 (l:=t.args) (j+1);have hsub:=Zu hlt;have hsz':=z0h hsub
  repeat' (first|refine qZa ?_|refine qZg ?_|(refine qZe ?_;try simp only[z00])|(refine qZb ?_;simp (config:=qZc) (disch:=first|omega|rfl) only[sB,dAlloc,Za,Zb,one,reduceCtorEq,ld28,ia26,zr28,st28,cl39,t0,t53,t54,t55,decl hlt,ldG,eG1,qG])|(refine qZd ?_ ?_;simp (config:=qZc) (disch:=first|omega|rfl) only[sB];refine z02 ?_))
  refine(ih 0 6 7 8 9 (by omega) hG1 wG1 hrj (hxG.trans hxG1) (hf.args _ hsub) (by omega) (grG.sn hsn) ((grG.room hroom (by omega)).le (by omega))).mono ?_;rintro v G2 ⟨σ2,hG2,kxG2,grG2,wG2⟩
  repeat' (first|(refine qZb ?_;simp (config:=qZc) (disch:=first|omega|rfl) only[sB,Za,t55,z0c]))
  exact⟨t.args.length - (j+1),by omega,_,_,j+1,σ2,rfl,rfl,by omega,(by simp only[sG,reduceCtorEq,t0]),(by simp only[sG,Za,t53]),(by simp only[sG,Za,t54]),(by simp only[sB,Za];rfl),hG2,(kxG.trans kxG1).trans kxG2,(grG.trans grG2).up (by omega),wG2⟩
 ·have hj':j=t.args.length:=by omega
  subst hj';rw[List.take_length] at grG
  repeat' (first|refine qZa ?_|(refine qZi ?_;try simp only[sB,reduceCtorEq])|(refine qZb ?_;simp (config:=qZc) (disch:=first|omega|rfl) only[sB,Za,reduceCtorEq,cl38,t0,t54,t55,decn hlt])|(refine qZm ?_ ?_;simp (config:=qZc) (disch:=first|omega|rfl) only[sB];refine z02 ?_))
  refine(z5h hG wG _ _ _ ((grG.room hroom (by omega)).le (by omega))).mono ?_;rintro v G2 ⟨rfl,σ2,hG2,kxG2,grG2,-,wG2⟩
  skip
  exact z0j rfl ⟨σ2,hG2,kxG.trans kxG2,(grG.trans grG2).up (by omega),wG2⟩
end
end Go.Proofs.hq
end

section
namespace Go.Proofs.hq
open Go Go.RowKit Go.Hb
def rowUp (i:Nat) (r:RowS):RowS:={ r with ids:=r.ids++[i] }
noncomputable def idxKey (σ:MS) (t:Tm):MS:=if t.kind=5 then { σ with funs:=putK σ.funs (keyT t) } else { σ with consts:=putT σ.consts t }
noncomputable def idxW (σ:MS) (t:Tm):Nat:=if t.kind=5 then posK σ.funs (keyT t) else posT σ.consts t
def rowAt (l:List RowS) (c:Bool) (w:Int):Nat:=l.findIdx fun r=>decide (r.const=c/\r.which=w)
def rowPut (l:List RowS) (c:Bool) (w:Int) (ids:List Nat):List RowS:=if rowAt l c w < l.length then l else l++[⟨c,w,ids⟩]
def rowC (t:Tm):Bool:=!decide (t.kind=5)
noncomputable def idx1 (σ:MS) (i:Nat) (t:Tm):MS :=
 if t.kind=1 then { σ with rest:=σ.rest++[i],rows:=σ.rows.map (rowUp i) }
 else { idxKey σ t with rows:=(rowPut σ.rows (rowC t) (idxW σ t) σ.rest).modify (rowAt σ.rows (rowC t) (idxW σ t)) (rowUp i) }
def IsR (σ:MS) (r:RowS) (t:Tm):Prop:=(r.const=true/\t.kind≠5/\∃w:Nat,r.which=w/\σ.consts[w]?=some t)\/(r.const=false/\t.kind=5/\∃w:Nat,r.which=w/\σ.funs[w]?=some (keyT t))
structure Ix (σ:MS) (xs:List Tm):Prop where
 inc:σ.rest.Pairwise (· < ·)
 lt:∀j∈σ.rest,j < xs.length
 var:∀j t,xs[j]?=some t->t.kind=1->j∈σ.rest/\∀r∈σ.rows,j∈r.ids
 row:∀r∈σ.rows,r.ids.Pairwise (· < ·)/\(∀j∈r.ids,j < xs.length)/\∃t,IsR σ r t
 key:∀j t,xs[j]?=some t->t.kind≠1->∃r∈σ.rows,j∈r.ids/\IsR σ r t
 dis:∀(p q:Nat) r r',σ.rows[p]?=some r->σ.rows[q]?=some r'->r.const=r'.const->r.which=r'.which->p=q
 nc:σ.consts.Nodup
 nf:σ.funs.Nodup
theorem Ix.nil {σ:MS}(h1:σ.rows=[]) (h2:σ.rest=[]) (h3:σ.consts.Nodup) (h4:σ.funs.Nodup):Ix σ [] :=
 ⟨(by rw[h2];exact List.Pairwise.nil),fun j h=>(by rw[h2] at h;cases h),fun j t h=>(by simp at h),fun r h=>(by rw[h1] at h;cases h),fun j t h=>(by simp at h),fun p q r r' h=>(by rw[h1] at h;simp at h),h3,h4⟩
theorem znc {l:List Nat}{n:Nat}(h:l.Pairwise (· < ·)) (hl:∀j∈l,j < n):(l++[n]).Pairwise (· < ·) :=
 List.pairwise_append.2 ⟨h,List.pairwise_singleton _ _,fun a ha b hb=>by rw[List.mem_singleton.1 hb];exact hl a ha⟩
theorem z2v {α:Type}{l:List α}{x t:α}{j:Nat}(h:(l++[x])[j]?=some t):l[j]?=some t\/(j=l.length/\t=x):=by
 by_cases hj:j < l.length
 ·rw[Zz hj] at h;exact .inl h
 ·rw[ZC (by omega)] at h;have h1:=(List.getElem?_eq_some_iff.1 h).1;simp only[List.length_singleton] at h1;have:j=l.length:=by omega
  subst this;rw[Nat.sub_self] at h;cases h;exact .inr ⟨rfl,rfl⟩
theorem zrb {α:Type}{l r l':List α}{w:Nat}{x:α}(e:l'=l++r) (h:l[w]?=some x):l'[w]?=some x:=by
 rw[e,Zz (List.getElem?_eq_some_iff.1 h).1];exact h
theorem IsR.to {σ σ':MS}{r:RowS}{t:Tm}(h:IsR σ r t) (hc:∃l,σ'.consts=σ.consts++l) (hf:∃l,σ'.funs=σ.funs++l):IsR σ' r t:=by
 obtain⟨lc,ec⟩:=hc;obtain⟨lf,ef⟩:=hf;rcases h with ⟨h1,h2,w,h3,h4⟩|⟨h1,h2,w,h3,h4⟩
 ·exact .inl ⟨h1,h2,w,h3,zrb ec h4⟩
 ·exact .inr ⟨h1,h2,w,h3,zrb ef h4⟩
theorem IsR.up {σ:MS}{r:RowS}{t:Tm}{i:Nat}(h:IsR σ r t):IsR σ (rowUp i r) t:=h
theorem zjq (σ:MS) (t:Tm):(∃l,(idxKey σ t).consts=σ.consts++l)/\∃l,(idxKey σ t).funs=σ.funs++l:=by
 unfold idxKey;split
 ·exact⟨⟨[],by simp⟩,zhz _ _⟩
 ·exact⟨zi1 _ _,⟨[],by simp⟩⟩
theorem zee {σ:MS}{t:Tm}(h1:σ.consts.Nodup) (h2:σ.funs.Nodup):(idxKey σ t).consts.Nodup/\(idxKey σ t).funs.Nodup:=by
 unfold idxKey;split
 ·exact⟨h1,zb0 h2⟩
 ·exact⟨zb1 h1,h2⟩
theorem zi3 {l:List RowS}{c:Bool}{w:Int}(h:rowAt l c w < l.length):∃r,l[rowAt l c w]?=some r/\r.const=c/\r.which=w:=by
 have:=List.findIdx_getElem (w:=h);simp only[decide_eq_true_eq] at this;exact⟨_,Zc h,this.1,this.2⟩
theorem zpi {l:List RowS}{c:Bool}{w:Int}(h:¬rowAt l c w < l.length):∀r∈l,¬(r.const=c/\r.which=w):=fun r hr e=>h (List.findIdx_lt_length.2 ⟨r,hr,decide_eq_true e⟩)
theorem zef {l:List RowS}{c:Bool}{w:Int}{ids:List Nat}:∃r,(rowPut l c w ids)[rowAt l c w]?=some r/\r.const=c/\r.which=w:=by
 unfold rowPut;split
 ·rename_i h;exact zi3 h
 ·rename_i h;have h0:rowAt l c w=l.length:=Nat.le_antisymm List.findIdx_le_length (by omega);rw[h0];exact⟨⟨c,w,ids⟩,by simp,rfl,rfl⟩
theorem z7e {l:List RowS}{c:Bool}{w:Int}{ids:List Nat}{r:RowS}(h:r∈rowPut l c w ids):r∈l\/r=⟨c,w,ids⟩:=by
 unfold rowPut at h;split at h
 ·exact .inl h
 ·rcases List.mem_append.1 h with h|h
  ·exact .inl h
  ·exact .inr (List.mem_singleton.1 h)
theorem zjr {l:List RowS}{c:Bool}{w:Int}{ids:List Nat}{r:RowS}(h:r∈l):r∈rowPut l c w ids:=by
 unfold rowPut;split
 ·exact h
 ·exact List.mem_append_left _ h
theorem zjs {l:List RowS}{c:Bool}{w:Int}{ids:List Nat}(h:∀(p q:Nat) r r',l[p]?=some r->l[q]?=some r'->r.const=r'.const->r.which=r'.which->p=q) :
  ∀(p q:Nat) r r',(rowPut l c w ids)[p]?=some r->(rowPut l c w ids)[q]?=some r'->r.const=r'.const->r.which=r'.which->p=q:=by
 unfold rowPut;split
 ·exact h
 ·rename_i hn;have hno:=zpi hn;intro p q r r' h1 h2 h3 h4;rcases z2v h1 with h1|⟨rfl,rfl⟩
  ·rcases z2v h2 with h2|⟨rfl,rfl⟩
   ·exact h p q r r' h1 h2 h3 h4
   ·exact absurd ⟨h3,h4⟩ (hno r (Zx h1))
  ·rcases z2v h2 with h2|⟨rfl,rfl⟩
   ·exact absurd ⟨h3.symm,h4.symm⟩ (hno r' (Zx h2))
   ·rfl
theorem znd {l:List RowS}{k i:Nat}{r:RowS}(h:r∈l.modify k (rowUp i)):∃r0∈l,r=r0\/r=rowUp i r0:=by
 obtain⟨p,hp⟩:=List.getElem?_of_mem h;rw[List.getElem?_modify] at hp;cases hq:l[p]? with
 |none=>rw[hq] at hp;simp at hp
 |some r0 =>
  rw[hq] at hp;refine⟨r0,Zx hq,?_⟩;by_cases hk:k=p
  ·simp only[hk,if_true,Option.map_eq_map,ZE,Option.some.injEq] at hp;exact .inr hp.symm
  ·simp only[hk,if_false,Option.map_eq_map,ZE,Option.some.injEq,id_eq] at hp;exact .inl hp.symm
theorem ztd {l:List RowS}{k i:Nat}{r0:RowS}(h:r0∈l):∃r∈l.modify k (rowUp i),r=r0\/r=rowUp i r0:=by
 obtain⟨p,hp⟩:=List.getElem?_of_mem h;by_cases hk:k=p
 ·exact⟨rowUp i r0,Zx (i:=p) (by rw[List.getElem?_modify,hp];simp [hk]),.inr rfl⟩
 ·exact⟨r0,Zx (i:=p) (by rw[List.getElem?_modify,hp];simp [hk]),.inl rfl⟩
theorem zrc {i j:Nat}{r r0:RowS}(h:r=r0\/r=rowUp i r0) (hj:j∈r0.ids):j∈r.ids:=by
 rcases h with rfl|rfl
 ·exact hj
 ·exact List.mem_append_left _ hj
theorem zux {σ:MS}{i:Nat}{t:Tm}{r r0:RowS}(h:r=r0\/r=rowUp i r0) (hj:IsR σ r0 t):IsR σ r t:=by
 rcases h with rfl|rfl
 ·exact hj
 ·exact hj
theorem zrd {i:Nat}{r r0:RowS}(h:r=r0\/r=rowUp i r0):r.const=r0.const/\r.which=r0.which:=by
 rcases h with rfl|rfl
 ·exact⟨rfl,rfl⟩
 ·exact⟨rfl,rfl⟩
theorem zre {i:Nat}{r r0:RowS}(h:r=r0\/r=rowUp i r0) (h1:r0.ids.Pairwise (· < ·)) (h2:∀j∈r0.ids,j < i):r.ids.Pairwise (· < ·)/\∀j∈r.ids,j < i+1:=by
 rcases h with rfl|rfl
 ·exact⟨h1,fun j hj=>Nat.lt_succ_of_lt (h2 j hj)⟩
 ·refine⟨znc h1 h2,fun j hj=>?_⟩;rcases List.mem_append.1 hj with hj|hj
  ·exact Nat.lt_succ_of_lt (h2 j hj)
  ·rw[List.mem_singleton.1 hj];exact Zf _
theorem zrf {l:List RowS}{k i p:Nat}{r:RowS}(h:(l.modify k (rowUp i))[p]?=some r):∃r0,l[p]?=some r0/\(r=r0\/r=rowUp i r0):=by
 rw[List.getElem?_modify] at h;cases hq:l[p]? with
 |none=>rw[hq] at h;simp at h
 |some r0 =>
  rw[hq] at h;refine⟨r0,rfl,?_⟩;by_cases hk:k=p
  ·simp only[hk,if_true,Option.map_eq_map,ZE,Option.some.injEq] at h;exact .inr h.symm
  ·simp only[hk,if_false,Option.map_eq_map,ZE,Option.some.injEq,id_eq] at h;exact .inl h.symm
theorem zne (σ:MS) (t:Tm) (ids:List Nat):IsR (idxKey σ t) ⟨rowC t,idxW σ t,ids⟩ t:=by
 by_cases h:t.kind=5
 ·refine .inr ⟨by simp [rowC,h],h,posK σ.funs (keyT t),by simp [idxW,h],?_⟩;simp only[idxKey,h,if_true];exact zt9 _ _
 ·refine .inl ⟨by simp [rowC,h],h,posT σ.consts t,by simp [idxW,h],?_⟩;simp only[idxKey,h,if_false];exact ztc _ _
theorem IsR.same {σ:MS}{r r':RowS}{t:Tm}(h:IsR σ r t) (h1:r.const=r'.const) (h2:r.which=r'.which):IsR σ r' t:=by
 unfold IsR at *;rw[<-h1,<-h2];exact h
theorem Ix.step {σ:MS}{xs:List Tm}(h:Ix σ xs) (t:Tm):Ix (idx1 σ xs.length t) (xs++[t]):=by
 have hlen:(xs++[t]).length=xs.length+1:=by simp
 unfold idx1;by_cases hk:t.kind=1
 ·rw[if_pos hk];refine⟨znc h.inc h.lt,fun j hj=>?_,fun j u hu hku=>?_,fun r hr=>?_,fun j u hu hku=>?_,fun p q r r' h1 h2 h3 h4=>?_,h.nc,h.nf⟩
  ·rw[hlen];rcases List.mem_append.1 hj with hj|hj
   ·exact Nat.lt_succ_of_lt (h.lt j hj)
   ·rw[List.mem_singleton.1 hj];exact Zf _
  ·rcases z2v hu with hu|⟨rfl,rfl⟩
   ·obtain⟨a1,a2⟩:=h.var j u hu hku;refine⟨List.mem_append_left _ a1,fun r hr=>?_⟩;obtain⟨r0,hr0,rfl⟩:=List.mem_map.1 hr;exact List.mem_append_left _ (a2 r0 hr0)
   ·refine⟨List.mem_append_right _ (List.mem_singleton.2 rfl),fun r hr=>?_⟩;obtain⟨r0,hr0,rfl⟩:=List.mem_map.1 hr;exact List.mem_append_right _ (List.mem_singleton.2 rfl)
  ·obtain⟨r0,hr0,rfl⟩:=List.mem_map.1 hr;obtain⟨a1,a2,u,a3⟩:=h.row r0 hr0;obtain⟨b1,b2⟩:=zre (.inr rfl) a1 a2;exact⟨b1,by rw[hlen];exact b2,u,a3⟩
  ·rcases z2v hu with hu|⟨rfl,rfl⟩
   ·obtain⟨r,hr,a1,a2⟩:=h.key j u hu hku;exact⟨rowUp xs.length r,List.mem_map.2 ⟨r,hr,rfl⟩,List.mem_append_left _ a1,a2⟩
   ·exact absurd hk hku
  ·simp only[Zw,Option.map_eq_some_iff] at h1 h2;obtain⟨r0,g1,rfl⟩:=h1;obtain⟨r1,g2,rfl⟩:=h2;exact h.dis p q _ _ g1 g2 h3 h4
 ·rw[if_neg hk];obtain⟨pc,pf⟩:=zjq σ t;obtain⟨nc,nf⟩:=zee (t:=t) h.nc h.nf;have erest:(idxKey σ t).rest=σ.rest:=by unfold idxKey;split<;>rfl
  have hrow0:∀r∈rowPut σ.rows (rowC t) (idxW σ t) σ.rest,r.ids.Pairwise (· < ·)/\(∀j∈r.ids,j < xs.length)/\∃u,IsR (idxKey σ t) r u:=fun r hr=>by
   rcases z7e hr with hr|rfl
   ·obtain⟨a1,a2,u,a3⟩:=h.row r hr;exact⟨a1,a2,u,a3.to pc pf⟩
   ·exact⟨h.inc,h.lt,t,zne σ t _⟩
  refine⟨by simp only[erest];exact h.inc,fun j hj=>?_,fun j u hu hku=>?_,fun r hr=>?_,fun j u hu hku=>?_,fun p q r r' h1 h2 h3 h4=>?_,nc,nf⟩
  ·simp only[erest] at hj;rw[hlen];exact Nat.lt_succ_of_lt (h.lt j hj)
  ·rcases z2v hu with hu|⟨rfl,rfl⟩
   ·obtain⟨a1,a2⟩:=h.var j u hu hku;refine⟨by simp only[erest];exact a1,fun r hr=>?_⟩;obtain⟨r0,hr0,e⟩:=znd hr;refine zrc e ?_;rcases z7e hr0 with hr0|rfl
    ·exact a2 r0 hr0
    ·exact a1
   ·exact absurd hku hk
  ·obtain⟨r0,hr0,e⟩:=znd hr;obtain⟨a1,a2,u,a3⟩:=hrow0 r0 hr0;obtain⟨b1,b2⟩:=zre e a1 a2;exact⟨b1,by rw[hlen];exact b2,u,zux (σ:=idxKey σ t) e a3⟩
  ·rcases z2v hu with hu|⟨rfl,rfl⟩
   ·obtain⟨r,hr,a1,a2⟩:=h.key j u hu hku;obtain⟨r',hr',e⟩:=ztd (k:=rowAt σ.rows (rowC t) (idxW σ t)) (i:=xs.length) (zjr (c:=rowC t) (w:=idxW σ t) (ids:=σ.rest) hr);exact⟨r',hr',zrc e a1,zux (σ:=idxKey σ t) e (a2.to pc pf)⟩
   ·obtain⟨r,hr,a1,a2⟩:=zef (l:=σ.rows) (c:=rowC u) (w:=idxW σ u) (ids:=σ.rest);refine⟨rowUp xs.length r,Zx (i:=rowAt σ.rows (rowC u) (idxW σ u)) ?_,List.mem_append_right _ (List.mem_singleton.2 rfl),?_⟩
    ·simp only;rw[List.getElem?_modify,hr];simp
    ·exact(zne σ u σ.rest).same a1.symm a2.symm
  ·obtain⟨r0,g1,e1⟩:=zrf h1;obtain⟨r1,g2,e2⟩:=zrf h2;obtain⟨k1,k2⟩:=zrd e1;obtain⟨k3,k4⟩:=zrd e2;exact zjs h.dis p q _ _ g1 g2 (by rw[<-k1,<-k3];exact h3) (by rw[<-k2,<-k4];exact h4)
noncomputable def forS (σ:MS) (r:RowS) (t:Tm):Bool :=
 if r.which < 0 then false else if r.const then (match σ.consts[r.which.toNat]? with|some u=>eqT u t|none=>false)
 else match σ.funs[r.which.toNat]? with|some k=>decide (t.kind=5/\k=keyT t)|none=>false
noncomputable def chosenS (σ:MS) (t:Tm):List Nat:=match σ.rows.find? (forS σ · t) with|some r=>r.ids|none=>σ.rest
def couldS (a b:Tm):Prop:=a.kind=1\/b.kind=1\/(a.kind=5/\b.kind=5/\keyT a=keyT b)\/(¬(a.kind=5/\b.kind=5)/\a=b)
theorem zi4 {α:Type}{l:List α}(h:l.Nodup) {i j:Nat}{x:α}(h1:l[i]?=some x) (h2:l[j]?=some x):i=j:=by
 have hi:=(List.getElem?_eq_some_iff.1 h1).1;exact(List.getElem?_inj hi h).1 (h1.trans h2.symm)
theorem zfo {σ:MS}{r:RowS}{t:Tm}(h:forS σ r t=true):(r.const=true/\∃w:Nat,r.which=w/\σ.consts[w]?=some t)\/(r.const=false/\t.kind=5/\∃w:Nat,r.which=w/\σ.funs[w]?=some (keyT t)):=by
 unfold forS at h;split at h
 ·cases h
 ·rename_i hw;have hw':r.which=(r.which.toNat:Nat):=by omega
  split at h
  ·rename_i hc;split at h
   ·rename_i u hu;exact .inl ⟨hc,_,hw',by rw[hu,z77.1 h]⟩
   ·cases h
  ·rename_i hc;split at h
   ·rename_i k hk;have:=of_decide_eq_true h;exact .inr ⟨by simpa using hc,this.1,_,hw',by rw[hk,this.2]⟩
   ·cases h
theorem znf {σ:MS}{r:RowS}{t:Tm}(h:IsR σ r t):forS σ r t=true:=by
 unfold forS;rcases h with ⟨h1,h2,w,h3,h4⟩|⟨h1,h2,w,h3,h4⟩
 ·rw[if_neg (by omega),if_pos h1];have:r.which.toNat=w:=by omega
  simp only[this,h4];exact z77.2 rfl
 ·rw[if_neg (by omega),if_neg (by rw[h1];exact Bool.false_ne_true)];have:r.which.toNat=w:=by omega
  simp only[this,h4];exact decide_eq_true ⟨h2,trivial⟩
theorem Ix.inj {σ:MS}{xs:List Tm}(h:Ix σ xs) {r r':RowS}(hr:r∈σ.rows) (hr':r'∈σ.rows) (h1:r.const=r'.const) (h2:r.which=r'.which):r=r':=by
 obtain⟨p,hp⟩:=List.getElem?_of_mem hr;obtain⟨q,hq⟩:=List.getElem?_of_mem hr';have:=h.dis p q r r' hp hq h1 h2;subst this;rw[hp] at hq;exact Option.some.inj hq
theorem Ix.chosen {σ:MS}{xs:List Tm}(h:Ix σ xs) {f t:Tm}{j:Nat}(hf:f.kind≠1) (hj:xs[j]?=some t) (hc:couldS t f):j∈chosenS σ f:=by
 unfold chosenS;cases hr:σ.rows.find? (forS σ · f) with
 |none =>
  simp only;by_cases hk:t.kind=1
  ·exact(h.var j t hj hk).1
  ·obtain⟨r,hr',a1,a2⟩:=h.key j t hj hk;have hn:=List.find?_eq_none.1 hr r hr';exfalso;apply hn;rcases hc with hc|hc|⟨c1,c2,c3⟩|⟨c1,rfl⟩
   ·exact absurd hc hk
   ·exact absurd hc hf
   ·refine znf ?_;rcases a2 with ⟨b1,b2,-⟩|⟨b1,b2,b3⟩
    ·exact absurd c1 b2
    ·exact .inr ⟨b1,c2,by rw[<-c3];exact b3⟩
   ·exact znf a2
 |some r =>
  simp only;have hrm:=List.mem_of_find?_eq_some hr;have hrf:forS σ r f=true:=List.find?_some (p:=(forS σ · f)) hr;by_cases hk:t.kind=1
  ·exact(h.var j t hj hk).2 r hrm
  ·obtain⟨r',hr',a1,a2⟩:=h.key j t hj hk;obtain⟨-,-,u,hu⟩:=h.row r hrm
   suffices e:r=r' by rw[e];exact a1
   have hnf:¬(r.const=true/\f.kind=5):=fun ⟨q1,q2⟩=>by
    rcases zfo hrf with ⟨b1,w,b2,b3⟩|⟨b1,-⟩
    ·rcases hu with ⟨-,c2,w',c3,c4⟩|⟨c1,-⟩
     ·have:w=w':=by omega
      subst this;rw[b3] at c4;cases c4;exact c2 q2
     ·rw[c1] at b1;cases b1
    ·rw[b1] at q1;cases q1
   rcases hc with hc|hc|⟨c1,c2,c3⟩|⟨c1,rfl⟩
   ·exact absurd hc hk
   ·exact absurd hc hf
   ·rcases a2 with ⟨b1,b2,-⟩|⟨b1,b2,w,b3,b4⟩
    ·exact absurd c1 b2
    ·rcases zfo hrf with ⟨d1,-⟩|⟨d1,d2,w',d3,d4⟩
     ·exact absurd ⟨d1,c2⟩ hnf
     ·rw[<-c3] at d4;have:=zi4 h.nf b4 d4;exact h.inj hrm hr' (d1.trans b1.symm) (by omega)
   ·rcases a2 with ⟨b1,b2,w,b3,b4⟩|⟨b1,b2,w,b3,b4⟩
    ·rcases zfo hrf with ⟨d1,w',d3,d4⟩|⟨d1,d2,-⟩
     ·have:=zi4 h.nc b4 d4;exact h.inj hrm hr' (d1.trans b1.symm) (by omega)
     ·exact absurd d2 b2
    ·exact absurd ⟨b2,b2⟩ c1
theorem Ix.cinc {σ:MS}{xs:List Tm}(h:Ix σ xs) (f:Tm):(chosenS σ f).Pairwise (· < ·)/\∀j∈chosenS σ f,j < xs.length:=by
 unfold chosenS;split
 ·rename_i r hr;have:=h.row r (List.mem_of_find?_eq_some hr);exact⟨this.1,this.2.1⟩
 ·exact⟨h.inc,h.lt⟩
noncomputable def idxN (σ:MS) (xs:List Tm):Nat->MS
 |0=>σ
 |n+1=>match xs[n]? with|some t=>idx1 (idxN σ xs n) n t|none=>idxN σ xs n
theorem Ix.all {σ:MS}{xs:List Tm}(h:Ix σ []):∀n,n<=xs.length->Ix (idxN σ xs n) (xs.take n)
 |0,_=>by simpa [idxN] using h
 |n+1,hn=>by
  have ih:=h.all (xs:=xs) n (by omega);have hx:xs[n]?=some xs[n]:=Zc (by omega);have e:xs.take (n+1)=xs.take n++[xs[n]]:=(List.take_append_getElem (by omega)).symm;have:=ih.step xs[n];rw[Zo,Nat.min_eq_left (by omega)] at this;simp only[idxN,hx];rw[e];exact this
end Go.Proofs.hq
end

section
namespace Go.Proofs.hq
open Go Go.RowKit Go.Hb
variable {ok:Ok}
set_option maxRecDepth 10000
attribute [local irreducible] LX LG EL STG SOP SGO SGD SAL SRD SEF SEG SLK SCK ES
theorem z9q {cs el:List Value}{o j:Nat}{v:Value}(he:(cs.drop o).take el.length=el) (hj:j < el.length) (ho:o+el.length<=cs.length):Hb.splice cs (o+j) [v]=Hb.splice cs o (el.set j v):=by
 apply List.ext_getElem?;intro k;rw[z6o (by simp;omega),z6o (by rw[List.length_set];exact ho)];simp only[List.length_singleton,List.length_set];by_cases h1:o+j<=k/\k < o+j+1
 ·rw[if_pos h1,if_pos (by omega)];have:k=o+j:=by omega
  subst this;rw[show o+j - (o+j)=0 by omega,show o+j - o=j by omega,List.getElem?_set,if_pos rfl,if_pos hj];rfl
 ·rw[if_neg h1];by_cases h2:o<=k/\k < o+el.length
  ·rw[if_pos h2,List.getElem?_set,if_neg (by omega)];have:=congrArg (·[k - o]?) he;simp only[ZJ,ZN] at this;rw[if_pos (by omega),show o+(k - o)=k by omega] at this;exact this
  ·rw[if_neg h2]
section
variable {H H':Heap}{B p:Nat}{σ σ':MS}{rs:List (List Value)}
theorem MkA.jump (h:MkA H B p σ rs) (hw:H.wf) {k:Nat}(hk:k < σ.ins.length) (x:Int):∃b c cs,H.load ⟨p,4,none⟩ 1=some [.slice (some ⟨b,0,none⟩) σ.ins.length c]/\σ.ins.length<=c/\H.get b=some (.row cs 53)/\k*3+1+1<=cs.length /\
  ∃H2 σ',H.put b (some (.row (Hb.splice cs (k*3+1) [.int .i64 x]) 53))=H2/\MkA H2 B p σ' rs/\KX H H2 p rs rs/\Gr σ σ' 0/\σ'.ins.length=σ.ins.length/\H2.wf:=by
 obtain⟨a2,c2,a4,c4,a5,c5,a6,c6,a7,c7,a8,c8,a9,c9,sv,cl,ts,hs,ht,hc,l0,l1,l2,l3,l4,l5,l6,l7,l8,l9,l10,l11,b2,b4,b5,b6,b7,b8,b9⟩:=h.open;obtain⟨b,cs,rfl,o,hg,hle⟩:=hs.row (i:=4) (k:=k) rfl rfl hk;obtain⟨b',e,-,ld⟩:=hs.el (i:=4) (k:=k) rfl rfl (Zc hk);cases e;have hkl:k*3+3<=cs.length:=by
  have:(k+1)*3<=σ.ins.length*3:=Nat.mul_le_mul_right _ hk;omega
 have hmem:=Zu hk;have hsz:σ.ins[k].length=3:=o.sz _ hmem;have hone:σ.ins[k].all one=true:=o.all _ hmem;have hel:(cs.drop (k*3)).take σ.ins[k].length=σ.ins[k]:=by
  rw[hsz];have:=ld;unfold Heap.load Heap.cells at this;simp only[hg] at this;split at this
  ·exact Option.some.inj this
  ·cases this
 have hsp:=z9q (v:=.int .i64 x) (j:=1) hel (by omega) (by omega);have hy:(σ.ins[k].set 1 (.int .i64 x)).all one=true:=by
  rw[List.all_eq_true] at hone ⊢;intro v hv;rcases List.mem_or_eq_of_mem_set hv with hv|rfl
  ·exact hone v hv
  ·rfl
 obtain⟨H2,e2,hs2,sx⟩:=hs.write hw (i:=4) (k:=k) (y:=σ.ins[k].set 1 (.int .i64 x)) rfl rfl hk hg (by rw[List.length_set];exact hsz) hy;obtain⟨h2,kx2⟩:=h.turn0 (σ':={ σ with ins:=σ.ins.set k (σ.ins[k].set 1 (.int .i64 x)) }) hw ht hc hs2 sx rfl rfl rfl;exact⟨b,c4,cs,l4,b4.1,hg,by omega,H2,_,by rw[hsp];exact e2,h2,kx2,{ Gr.refl with ins0:=by simp,ins:=by simp },by simp,sx.wf⟩
set_option maxHeartbeats 8000000 in
theorem zi5 {f:FuncId}{caps:Array Value}(hcall:callable Tryz.prog f=true) (h:MkA H B p σ rs) (hw:H.wf) {k:Nat}(hk:k < σ.ins.length) {n:Nat}(hroom:Room σ (1+n))
  (hcode:∀(H1:Heap) (σ1:MS),KX H H1 p rs rs->MkA H1 B p σ1 rs->Gr σ σ1 1->H1.wf->EvF Tryz.prog okT f caps.toList H1 fun _ H2=>∃ σ2,MkA H2 B p σ2 rs/\KX H1 H2 p rs rs/\Gr σ1 σ2 n/\H2.wf) :
  EvF Tryz.prog okT 65 [ptr p,.int .i64 (k:Nat),.func (.func f) #[] caps] H fun _ H'=>∃ σ',MkA H' B p σ' rs/\KX H H' p rs rs/\Gr σ σ' (1+n)/\H'.wf:=by
 refine EvF.enter rfl Tryz.func65 (by decide) rfl ?_
 repeat' (first|refine qZa ?_|(refine qZb ?_;simp (config:=qZc) (disch:=first|omega|rfl) only[sB,initTm,Za,Zb,reduceCtorEq,cl38]))
 refine(z5h h hw _ _ _ (hroom.le (by omega))).mono ?_;rintro v H1 ⟨rfl,σ1,h1,kx1,gr1,hl1,w1⟩;obtain⟨Hb,eb,hxb,wb⟩:=z3l w1 15;obtain⟨hb,kxb⟩:=h1.keep w1 hxb;obtain⟨b,c,cs,l4,hcap,hg,hkl,H2,σ2,e2,h2,kx2,gr2,hl2,w2⟩:=hb.jump wb (k:=k) (by omega) (σ1.ins.length:Nat);have hk1:k < σ1.ins.length:=by omega
 have hk1':σ.ins.length < σ2.ins.length:=by omega
 repeat' (first|refine qZa ?_|(refine qZb ?_;simp (config:=qZc) (disch:=first|omega|rfl) only[sB,Za,reduceCtorEq,z2s,z1u hcall])|(refine qZj [([(0,0),(1,0),(2,0),(3,0),(4,0),(5,0),(6,0),(7,0),(8,0),(9,0),(10,0),(11,0),(12,0),(13,0)],some 14),([],none)] ?_ ?_;kernel_rfl;simp (config:=qZc) (disch:=first|omega|rfl) only[sD,sB,Za,Zb,one,reduceCtorEq,z2w,zgw,ld30,ln30,ia30,zqm,st3,z0d,z0o,eb,l4,hg,e2,hkl,isAlloc,isRead]))
 have kx02:=(kx1.trans kxb).trans kx2;refine(hcode H2 σ2 kx02 h2 ((gr1.trans gr2).up (Ze _)) w2).mono ?_;rintro v H3 ⟨σ3,h3,kx3,gr3,w3⟩;obtain⟨Hb',eb',hxb',wb'⟩:=z3l w3 15;obtain⟨hb3,kxb3⟩:=h3.keep w3 hxb';have hk3:σ.ins.length < σ3.ins.length:=by have:=gr3.ins0;omega
 obtain⟨b',c',cs',l4',hcap',hg',hkl',H4,σ4,e4,h4,kx4,gr4,hl4,w4⟩:=hb3.jump wb' (k:=σ.ins.length) hk3 (σ3.ins.length:Nat)
 repeat' (first|(refine qZj [([(0,0),(1,0),(2,0),(3,0),(4,0),(5,0),(6,0),(7,0),(8,0),(9,0),(10,0),(11,0),(12,0),(13,0)],some 14),([],none)] ?_ ?_;kernel_rfl;simp (config:=qZc) (disch:=first|omega|rfl) only[sD,sB,Za,Zb,one,reduceCtorEq,z2w,zgw,ld30,ln30,ia30,zqm,st3,z0d,z0o,eb',l4',hg',e4,hkl',isAlloc,isRead]))
 exact z0j rfl ⟨σ4,h4,kx02.trans (kx3.trans (kxb3.trans kx4)),(((gr1.trans gr2).trans gr3).trans gr4).up (by omega),w4⟩
end
section
variable {H H':Heap}{B p:Nat}{σ σ':MS}{rs rs':List (List Value)}
theorem MkA.turnR {V':List Value}{cl ts:List (List Value)}(ht:TmsR H (OffK H p rs) σ.consts ts) (hc:ClsR H (OffK H p rs) σ.clauses cl) (hs:StR H' B p 58 (mFlds σ' cl ts rs') V') (kx:KX H H' p rs rs') (hr:RowsR H' B p σ'.rows rs') (h1:σ'.consts=σ.consts) (h2:σ'.clauses=σ.clauses):MkA H' B p σ' rs' :=
 ⟨⟨V',cl,ts,hs,h1 ▸ ht.to fun n hn _=>kx.off hn,h2 ▸ hc.to fun n hn _=>kx.off hn⟩,hr⟩
theorem zte (l:List Nat) (i:Nat):idK (l++[i])=idK l++[[.int .i64 (i:Nat)]]:=by simp [idK]
theorem z69 {α:Type}{l:List α}{k i:Nat}{y x:α}(h:(l.set k y)[i]?=some x):(i=k/\x=y)\/(i≠k/\l[i]?=some x):=by
 rw[List.getElem?_set] at h;split at h
 ·rename_i e;split at h
  ·cases h;exact .inl ⟨e.symm,rfl⟩
  ·cases h
 ·rename_i e;exact .inr ⟨fun q=>e q.symm,h⟩
theorem MkA.rowpush {H0:Heap}(h0:MkA H0 B p σ rs) (hw0:H0.wf) (hx:HX H0 H) {k i:Nat}{r:RowS}(hk:σ.rows[k]?=some r) {ad:Addr}{c1:Nat}(hl:H.load ad (1*1)=some [.int .i64 (i:Nat)]) (hm:r.ids.length+1<=most) :
  ∃b cs a c c8,H0.load ⟨p,8,none⟩ 1=some [.slice (some ⟨b,0,none⟩) σ.rows.length c8]/\k < σ.rows.length/\H0.load ⟨b,k*3+2,none⟩ 1=some [.slice a r.ids.length c]/\∃H2 c',dAp Tryz.prog #[32,32] (.slice a r.ids.length c) (.slice (some ad) 1 c1) H=some (.val (.slice (some ⟨H.next,0,none⟩) (r.ids.length+1) c') H2)/\H2.get b=some (.row cs 65)/\k*3+2+1<=cs.length /\
   H2.load ⟨p,8,none⟩ 1=some [.slice (some ⟨b,0,none⟩) σ.rows.length c8]/\∃H3 rs',H2.put b (some (.row (Hb.splice cs (k*3+2) [.slice (some ⟨H.next,0,none⟩) (r.ids.length+1) c']) 65))=H3/\MkA H3 B p { σ with rows:=σ.rows.modify k (rowUp i) } rs'/\KX H0 H3 p rs rs'/\H3.wf/\Same2 H0 H3 p:=by
 have hw:=hx.wf;obtain⟨h,kx0⟩:=h0.keep hw0 hx;obtain⟨a2,c2,a4,c4,a5,c5,a6,c6,a7,c7,a8,c8,a9,c9,sv,cl,ts,hs,ht,hc,l0,l1,l2,l3,l4,l5,l6,l7,l8,l9,l10,l11,b2,b4,b5,b6,b7,b8,b9⟩:=h0.open;have hs0:=hs;replace hs:=hs.keep hw0 hx;replace ht:=ht.to (H':=H) (S':=OffK H p rs) fun n hn _=>kx0.off hn
 replace hc:=hc.to (H':=H) (S':=OffK H p rs) fun n hn _=>kx0.off hn
 have hkl:k < σ.rows.length:=(List.getElem?_eq_some_iff.1 hk).1;have hkr:k < rs.length:=by rw[h.rws.len];exact hkl
 obtain⟨v,q1,q2,q3⟩:=h.rws.el k r hk;have q2':FR H B (.sl 3 1 (idK r.ids)) v:=q2;obtain⟨a,c,rfl,hc1,hc2⟩:=q2.slice;rw[z1o] at q1 q2 q2' q3 hc1;have hB:B<=H.next:=Zj hs.ge (Nat.le_of_lt (hs.lt hw));obtain⟨H2,c',e2,o2,n2,w2,k2,-⟩:=q2'.push (P:=Tryz.prog) (t:=32) (c1:=c1) hw ap32 hl rfl rfl (by rw[z1o];exact hm) hB;rw[z1o] at e2;have hmk:∀n,Mut H p n->H2.get n=H.get n:=fun n hn=>k2 n (hs.mhi hw hn) fun e=>q3 n e hn
 have hs2:=hs.beside hmk (by omega);have hmut2:∀n,Mut H2 p n↔Mut H p n:=fun n=>Mut.same (hmk p (.inl rfl)) n
 obtain⟨b,cs,rfl,o8,g8,hle⟩:=hs2.row (i:=8) (k:=k) rfl rfl hkr;have hbm:Mut H p b:=.inr ⟨_,_,hs.obj,.slice (some ⟨b,0,none⟩) σ.rows.length c8,by simp,rfl⟩;have hbn:b < H.next:=hs.mhi hw hbm;have hkl3:k*3+3<=cs.length:=by
  have:(k+1)*3<=rs.length*3:=Nat.mul_le_mul_right _ hkr;omega
 obtain⟨b',e',od,-⟩:=hs0.el (i:=8) (k:=k) rfl rfl q1;cases e';obtain⟨b',e',-,ld2⟩:=hs2.el (i:=8) (k:=k) rfl rfl q1;cases e';have ld':=od.part (j:=2) (n:=1) q1 (by omega);have hel:(cs.drop (k*3)).take 3=[.bool r.const,.int .i64 r.which,.slice a r.ids.length c]:=by
  have:=ld2;unfold Heap.load Heap.cells at this;simp only[g8] at this;split at this
  ·exact Option.some.inj this
  ·cases this
 have hsp:=z9q (v:=.slice (some ⟨H.next,0,none⟩) (r.ids.length+1) c') (el:=[.bool r.const,.int .i64 r.which,.slice a r.ids.length c]) (j:=2) hel (by simp) (by simp;omega);obtain⟨H3,e3,hs3,sx3⟩:=hs2.write w2 (i:=8) (k:=k) (y:=[.bool r.const,.int .i64 r.which,.slice (some ⟨H.next,0,none⟩) (r.ids.length+1) c']) rfl rfl hkr g8 rfl rfl;have n3:H3.next=H2.next:=by rw[<-e3];rfl
 have g3:∀n,n≠b->H3.get n=H2.get n:=fun n hn=>by rw[<-e3,get_put,if_neg hn]
 have hmut3:∀n,Mut H3 p n->Mut H p n\/H2.next<=n:=fun n q=>by
  rcases sx3.mt n q with q|q
  ·exact .inl ((hmut2 n).1 q)
  ·exact .inr q
 have hrow:∀{j:Nat}{row:List Value}{u:Value}{n:Nat},rs[j]?=some row->u∈row->blkOf u=some n->n < H.next/\¬Mut H p n/\MutK H p rs n:=fun {j row u n} hj hu hn=>by
  have hmem:MutK H p rs n:=.inr ⟨row,Zx hj,u,hu,hn⟩;refine⟨h.hi hw hmem,?_,hmem⟩;have hjl:j < σ.rows.length:=by rw[<-h.rws.len];exact(List.getElem?_eq_some_iff.1 hj).1
  obtain⟨v',h1,h2,h3⟩:=h.rws.el j _ (Zc hjl);rw[hj] at h1;cases h1;simp only[List.mem_cons,ZF,or_false] at hu;rcases hu with rfl|rfl|rfl
  ·cases hn
  ·cases hn
  ·exact h3 n hn
 have kx:KX H H3 p rs (rs.set k [.bool r.const,.int .i64 r.which,.slice (some ⟨H.next,0,none⟩) (r.ids.length+1) c']):=by
  refine⟨⟨by omega,fun n hn hm'=>?_,sx3.wf⟩,fun n q=>?_⟩
  ·rw[g3 n (fun e=>hm' (.inl (e ▸ hbm)))];exact k2 n hn fun e=>hm' (.inr ⟨_,Zx q1,_,by simp,e⟩)
  ·rcases q with q|⟨row,hrm,u,hu,hun⟩
   ·rcases hmut3 n q with q|q
    ·exact .inl (.inl q)
    ·exact .inr (by omega)
   ·obtain⟨j,hj⟩:=List.getElem?_of_mem hrm;rcases z69 hj with ⟨rfl,rfl⟩|⟨hjk,hj⟩
    ·simp only[List.mem_cons,ZF,or_false] at hu;rcases hu with rfl|rfl|rfl
     ·cases hun
     ·cases hun
     ·cases hun;exact .inr (Ze _)
    ·exact .inl (hrow hj hu hun).2.2
 refine⟨b,cs,a,c,c8,l8,hkl,ld',H2,c',e2,g8,by omega,hs2.load rfl,H3,_,by rw[hsp];exact e3,MkA.turnR ht hc (σ':={ σ with rows:=σ.rows.modify k (rowUp i) }) hs3 kx ⟨by rw[List.length_set,List.length_modify];exact h.rws.len,fun j x hx=>?_,fun j1 j2 row1 row2 u1 u2 n x1 x2 x3 x4 x5 x6=>?_⟩ rfl rfl,kx0.trans kx,sx3.wf,(hs3.load (i:=2) rfl).trans l2.symm⟩
 ·simp only[List.getElem?_modify] at hx;by_cases hjk:k=j
  ·subst hjk;rw[hk] at hx;simp only[if_true,Option.map_eq_map,ZE,Option.some.injEq] at hx;subst hx;refine⟨.slice (some ⟨H.next,0,none⟩) (r.ids.length+1) c',by rw[List.getElem?_set,if_pos rfl,if_pos hkr];rfl,?_,fun n hn=>?_⟩
   ·refine .inr ⟨H.next,c',?_,by simp [rowUp,z1o]⟩;have:=o2.heap (H':=H3) (g3 _ (by omega)) (by omega);simp only[rowUp,zte];exact this
   ·have hne:H.next=n:=Option.some.inj hn;intro q;rcases hmut3 n q with q|q
    ·have:=hs.mhi hw q;omega
    ·omega
  ·cases hx':σ.rows[j]? with
   |none=>rw[hx'] at hx;simp at hx
   |some x0 =>
    rw[hx'] at hx;simp only[if_neg hjk,Option.map_eq_map,ZE,Option.some.injEq,id_eq] at hx;subst hx;obtain⟨v',z1,z2,z3⟩:=h.rws.el j x0 hx';refine⟨v',by rw[List.getElem?_set,if_neg hjk];exact z1,?_,fun n hn q=>?_⟩
    ·refine FR.heap (f:=.sl 3 1 (idK x0.ids)) z2 (fun n hn=>?_) (by omega);obtain⟨y1,y2,y3⟩:=hrow z1 (u:=v') (by simp) hn;rw[g3 n (fun e=>y2 (e ▸ hbm))];exact k2 n y1 fun e=>hjk (h.rws.dis k j _ _ _ _ n q1 z1 (by simp) (by simp) e hn)
    ·obtain⟨y1,y2,y3⟩:=hrow z1 (u:=v') (by simp) hn;rcases hmut3 _ q with q|q
     ·exact y2 q
     ·omega
 ·have hnew:∀{u:Value}{n:Nat},u∈[Value.bool r.const,.int .i64 r.which,.slice (some ⟨H.next,0,none⟩) (r.ids.length+1) c']->blkOf u=some n->n=H.next:=fun {u n} hu hn=>by
   simp only[List.mem_cons,ZF,or_false] at hu;rcases hu with rfl|rfl|rfl
   ·cases hn
   ·cases hn
   ·cases hn;rfl
  rcases z69 x1 with ⟨y1,z1⟩|⟨y1,z1⟩
  ·rcases z69 x2 with ⟨y2,z2⟩|⟨y2,z2⟩
   ·exact y1.trans y2.symm
   ·rw[z1] at x3;have:=hnew x3 x5;have:=(hrow z2 x4 x6).1;omega
  ·rcases z69 x2 with ⟨y2,z2⟩|⟨y2,z2⟩
   ·rw[z2] at x4;have:=hnew x4 x6;have:=(hrow z1 x3 x5).1;omega
   ·exact h.rws.dis _ _ _ _ _ _ n z1 z2 x3 x4 x5 x6
theorem MkA.rownew {H0:Heap}(h:MkA H0 B p σ rs) (hw0:H0.wf) (hx:HX H0 H) {ids:List Nat}{v:Value}(hv:RepO H 3 1 B (idK ids) v) (hvo:∀n,blkOf v=some n->H0.next<=n) {c:Bool}{w:Int}{ad:Addr}{c1:Nat}(hl:H.load ad (1*3)=some [.bool c,.int .i64 w,v]) (hm:σ.rows.length+1<=most) :
  ∃a c8,H.load ⟨p,8,none⟩ 1=some [.slice a σ.rows.length c8]/\∃H2 V c',dAp Tryz.prog #[33,33] (.slice a σ.rows.length c8) (.slice (some ad) 1 c1) H=some (.val (.slice (some ⟨H.next,0,none⟩) (σ.rows.length+1) c') H2)/\H2.get p=some (.row V 58)/\8+1<=V.length /\
   ∃H3 rs',H2.put p (some (.row (Hb.splice V 8 [.slice (some ⟨H.next,0,none⟩) (σ.rows.length+1) c']) 58))=H3/\MkA H3 B p { σ with rows:=σ.rows++[⟨c,w,ids⟩] } rs'/\KX H0 H3 p rs rs'/\H3.wf/\Same2 H0 H3 p:=by
 have hw:=hx.wf;obtain⟨a2,c2,a4,c4,a5,c5,a6,c6,a7,c7,a8,c8,a9,c9,sv,cl,ts,hs,ht,hc,l0,l1,l2,l3,l4,l5,l6,l7,l8,l9,l10,l11,b2,b4,b5,b6,b7,b8,b9⟩:=h.open;have hone:one v=true:=by obtain⟨a,c,rfl,-⟩:=hv.slice;rfl
 have hsH:=hs.keep hw0 hx;obtain⟨H2,c',e2,g2,w2,k2,H3,e3,s3,x3⟩:=hsH.pushed (P:=Tryz.prog) (i:=8) (c1:=c1) (t:=33) hw ap33 rfl rfl hl rfl (by simp only[List.all_cons,List.all_nil,hone,Bool.and_true];rfl) (by rw[h.rws.len];exact hm);rw[h.rws.len] at e2 e3 s3;have sx:=(hx.sx (h.lt hw0)).trans x3;have hmH:∀n,Mut H p n->Mut H0 p n:=fun n q=>(Mut.same (hx.keep p (h.lt hw0)) n).1 q
 have hvl:∀n,blkOf v=some n->n < H.next:=fun n hn=>(FR.lo (f:=.sl 3 1 (idK ids)) hv hn).2
 have hrow:∀{j:Nat}{row:List Value}{u:Value}{n:Nat},rs[j]?=some row->u∈row->blkOf u=some n->n < H0.next/\¬Mut H0 p n/\MutK H0 p rs n:=fun {j row u n} hj hu hn=>by
  have hmem:MutK H0 p rs n:=.inr ⟨row,Zx hj,u,hu,hn⟩;refine⟨h.hi hw0 hmem,?_,hmem⟩;have hjl:j < σ.rows.length:=by rw[<-h.rws.len];exact(List.getElem?_eq_some_iff.1 hj).1
  obtain⟨v',h1,h2,h3⟩:=h.rws.el j _ (Zc hjl);rw[hj] at h1;cases h1;simp only[List.mem_cons,ZF,or_false] at hu;rcases hu with rfl|rfl|rfl
  ·cases hn
  ·cases hn
  ·exact h3 n hn
 have kx:KX H0 H3 p rs (rs++[[.bool c,.int .i64 w,v]]):=by
  refine⟨sx.hk.sub fun n _ q=>.inl q,fun n q=>?_⟩;rcases q with q|⟨row,hrm,u,hu,hun⟩
  ·exact(sx.mt n q).imp .inl id
  ·rcases List.mem_append.1 hrm with hrm|hrm
   ·exact .inl (.inr ⟨row,hrm,u,hu,hun⟩)
   ·rw[List.mem_singleton.1 hrm] at hu;simp only[List.mem_cons,ZF,or_false] at hu;rcases hu with rfl|rfl|rfl
    ·cases hun
    ·cases hun
    ·exact .inr (hvo n hun)
 refine⟨a8,c8,hx.load hw0 l8,H2,_,c',e2,g2,by simp,H3,_,e3,MkA.turnR ht hc (σ':={ σ with rows:=σ.rows++[⟨c,w,ids⟩] }) (by simpa [mFlds] using s3) kx ⟨by simp [h.rws.len],fun j x hxj=>?_,fun j1 j2 row1 row2 u1 u2 n x1 x2 x3' x4 x5 x6=>?_⟩ rfl rfl,kx,sx.wf,(s3.load (i:=2) rfl).trans l2.symm⟩
 ·rcases z2v hxj with hj|⟨rfl,rfl⟩
  ·obtain⟨v',z1,z2,z3⟩:=h.rws.el j x hj;have hjl:=(List.getElem?_eq_some_iff.1 z1).1;refine⟨v',by rw[Zz hjl];exact z1,FR.heap (f:=.sl 3 1 (idK x.ids)) z2 (fun n hn=>?_) sx.next,fun n hn q=>?_⟩
   ·obtain⟨y1,y2,y3⟩:=hrow z1 (u:=v') (by simp) hn;exact sx.hk.keep n y1 y2
   ·obtain⟨y1,y2,y3⟩:=hrow z1 (u:=v') (by simp) hn;rcases sx.mt n q with q|q
    ·exact y2 q
    ·omega
  ·refine⟨v,by rw[<-h.rws.len];simp,FR.heap (f:=.sl 3 1 (idK ids)) hv (fun n hn=>?_) x3.next,fun n hn q=>?_⟩
   ·refine x3.hk.keep n (hvl n hn) fun q=>?_
    have:=h.hi hw0 (.inl (hmH n q));have:=hvo n hn;omega
   ·rcases x3.mt n q with q|q
    ·have:=h.hi hw0 (.inl (hmH n q));have:=hvo n hn;omega
    ·have:=hvl n hn;omega
 ·have hnew:∀{u:Value}{n:Nat},u∈[Value.bool c,.int .i64 w,v]->blkOf u=some n->H0.next<=n:=fun {u n} hu hn=>by
   simp only[List.mem_cons,ZF,or_false] at hu;rcases hu with rfl|rfl|rfl
   ·cases hn
   ·cases hn
   ·exact hvo n hn
  rcases z2v x1 with x1|⟨rfl,rfl⟩
  ·rcases z2v x2 with x2|⟨rfl,rfl⟩
   ·exact h.rws.dis _ _ _ _ _ _ n x1 x2 x3' x4 x5 x6
   ·have:=hnew x4 x6;have:=(hrow x1 x3' x5).1;omega
  ·rcases z2v x2 with x2|⟨rfl,rfl⟩
   ·have:=hnew x3' x5;have:=(hrow x2 x4 x6).1;omega
   ·rfl
theorem MkA.restpush (h:MkA H B p σ rs) (hw:H.wf) {i:Nat}{ad:Addr}{c1:Nat}(hl:H.load ad (1*1)=some [.int .i64 (i:Nat)]) (hm:σ.rest.length+1<=most):∃a c,H.load ⟨p,9,none⟩ 1=some [.slice a σ.rest.length c]/\∃H2 V c',dAp Tryz.prog #[32,32] (.slice a σ.rest.length c) (.slice (some ad) 1 c1) H=some (.val (.slice (some ⟨H.next,0,none⟩) (σ.rest.length+1) c') H2)/\H2.get p=some (.row V 58)/\9+1<=V.length /\
  ∃H3,H2.put p (some (.row (Hb.splice V 9 [.slice (some ⟨H.next,0,none⟩) (σ.rest.length+1) c']) 58))=H3/\MkA H3 B p { σ with rest:=σ.rest++[i] } rs/\KX H H3 p rs rs/\H3.wf/\Same2 H H3 p:=by
 obtain⟨a2,c2,a4,c4,a5,c5,a6,c6,a7,c7,a8,c8,a9,c9,sv,cl,ts,hs,ht,hc,l0,l1,l2,l3,l4,l5,l6,l7,l8,l9,l10,l11,b2,b4,b5,b6,b7,b8,b9⟩:=h.open;obtain⟨H2,c',e2,g2,w2,k2,H3,e3,s3,x3⟩:=hs.pushed (P:=Tryz.prog) (i:=9) (c1:=c1) (t:=32) hw ap32 rfl rfl hl rfl rfl (by rw[z1o];exact hm);rw[z1o] at e2 e3 s3;obtain⟨h3,kx3⟩:=h.turn0 (σ':={ σ with rest:=σ.rest++[i] }) hw ht hc (by simpa [mFlds,idK] using s3) x3 rfl rfl rfl;exact⟨a9,c9,l9,H2,_,c',e2,g2,by simp,H3,e3,h3,kx3,x3.wf,(s3.load (i:=2) rfl).trans l2.symm⟩
end
inductive BOk:Bdy->Prop
 |leaf {k:Int}{t:Tm}:k=1\/k=2->BOk (.mk k t [])
 |call {t:Tm}:Fine t->nd t<=4000->BOk (.mk 3 t [])
 |mod {t:Tm}{b:Bdy}:checkS t=0->BOk b->BOk (.mk 7 t [b])
 |and {t:Tm}{b d:Bdy}:BOk b->BOk d->BOk (.mk 4 t [b,d])
 |or {t:Tm}{b d:Bdy}:BOk b->BOk d->BOk (.mk 5 t [b,d])
 |arr {t:Tm}{b d:Bdy}:BOk b->BOk d->BOk (.mk 6 t [b,d])
 |ite {t:Tm}{b d e:Bdy}:BOk b->BOk d->BOk e->BOk (.mk 6 t [b,d,e])
theorem BOk.inv {u:Bdy}(h:BOk u):((u.kind=1\/u.kind=2)/\u.sub=[])\/(u.kind=3/\Fine u.term/\nd u.term<=4000/\u.sub=[])\/(u.kind=7/\checkS u.term=0/\∃b,u.sub=[b]/\BOk b)\/(u.kind=4/\∃b d,u.sub=[b,d]/\BOk b/\BOk d)\/(u.kind=5/\∃b d,u.sub=[b,d]/\BOk b/\BOk d) \/
  (u.kind=6/\∃b d l,u.sub=b :: d :: l/\BOk b/\BOk d/\(l=[]\/∃e,l=[e]/\BOk e)):=by
 cases h with
 |leaf h=>exact .inl ⟨h,rfl⟩
 |call h1 h2=>exact .inr (.inl ⟨rfl,h1,h2,rfl⟩)
 |mod h1 h2=>exact .inr (.inr (.inl ⟨rfl,h1,_,rfl,h2⟩))
 |and h1 h2=>exact .inr (.inr (.inr (.inl ⟨rfl,_,_,rfl,h1,h2⟩)))
 |or h1 h2=>exact .inr (.inr (.inr (.inr (.inl ⟨rfl,_,_,rfl,h1,h2⟩))))
 |arr h1 h2=>exact .inr (.inr (.inr (.inr (.inr ⟨rfl,_,_,_,rfl,h1,h2,.inl rfl⟩))))
 |ite h1 h2 h3=>exact .inr (.inr (.inr (.inr (.inr ⟨rfl,_,_,_,rfl,h1,h2,.inr ⟨_,rfl,h3⟩⟩))))
theorem zuy {t:Tm}{b:Bdy}(hf:Fine t) (h:BdR t b) (hn:szB b<=4000):BOk b:=by
 induction h with
 |var h=>exact .call (z6y zc7 hf) (by rw[z3g] at hn;simp only[callB,Bdy.term] at hn;omega)
 |tru h1 h2=>exact .leaf (.inl rfl)
 |cut h1 h2=>exact .leaf (.inr rfl)
 |mcall h h1 h2 h3=>exact .call (z6y zc7 hf) (by rw[z3g] at hn;simp only[callB,Bdy.term] at hn;omega)
 |mod h h1 h2 h3 hb ih =>
  simp only[szB,szB.szBL] at hn;exact .mod (zhw (h.fine hf).1 (by omega)) (ih (h.fine hf).2 (by omega))
 |and h hb hd i1 i2 =>
  simp only[szB,szB.szBL] at hn;exact .and (i1 (h.fine hf).1 (by omega)) (i2 (h.fine hf).2 (by omega))
 |arr h hb hd i1 i2 =>
  simp only[szB,szB.szBL] at hn;exact .arr (i1 (h.fine hf).1 (by omega)) (i2 (h.fine hf).2 (by omega))
 |ite h hg hb hd he i1 i2 i3 =>
  simp only[szB,szB.szBL] at hn;exact .ite (i1 (hg.fine (h.fine hf).1).1 (by omega)) (i2 (hg.fine (h.fine hf).1).2 (by omega)) (i3 (h.fine hf).2 (by omega))
 |or h hn' hb hd i1 i2 =>
  simp only[szB,szB.szBL] at hn;exact .or (i1 (h.fine hf).1 (by omega)) (i2 (h.fine hf).2 (by omega))
 |call h=>exact .call hf (by rw[z3g] at hn;simp only[Bdy.term] at hn;omega)
theorem GoodC.bok {c:Cls}(h:GoodC c):BOk c.body:=by
 obtain⟨u,h1,h2⟩:=h.good.ex;have h3:=(zfh h1 h2).2;have h4:=h.few;exact zuy h1 h2 (by omega)
theorem new4 {H:Heap}(hw:H.wf) (A B C D:Blk):∃H2,(((H.new (some A)).new (some B)).new (some C)).new (some D)=H2/\HX H H2/\H2.get H.next=some A/\H2.get (H.next+1)=some B/\H2.get (H.next+2)=some C/\H2.get (H.next+3)=some D/\H2.next=H.next+4/\H2.wf:=by
 obtain⟨H1,e1,hx1,g1,g2,n1,w1⟩:=new2 hw A B;obtain⟨H2,e2,hx2,g3,g4,n2,w2⟩:=new2 w1 C D;rw[n1] at g3 g4;exact⟨H2,by rw[e1,e2],hx1.trans hx2,hx2.get w1 g1,hx2.get w1 g2,g3,g4,by omega,w2⟩
theorem zuz:callable Tryz.prog 66=true:=by kernel_rfl
theorem zv0:callable Tryz.prog 67=true:=by kernel_rfl
theorem RepBL.sub8 {H:Heap}{l:List Bdy}{a:Option Addr}{c:Nat}{cells:Nat->List Value}(r:RepBL H l a c cells) {j:Nat}(hj:j < l.length):∃b o ua uc va vc,a=some ⟨b,o,none⟩ /\
  H.load ⟨b,o+j*8,none⟩ 8=some (eightT l[j].kind l[j].term ua uc va l[j].sub.length vc)/\RepB H l[j] (eightT l[j].kind l[j].term ua uc va l[j].sub.length vc):=by
 obtain⟨b,o,e,hld,hr⟩:=r.el hj;obtain⟨ua,uc,va,vc,hc⟩:=hr.eight;rw[hc] at hld hr;exact⟨b,o,ua,uc,va,vc,e,hld,hr⟩
theorem ib0 {b o n c:Nat}{H:Heap}(h:0 < n):dIndexAddr Tryz.prog 43 (.slice (some ⟨b,o,none⟩) n c) (.int .i64 0) H=some (.val (.pointer (some ⟨b,o+0*8,none⟩)) H):=z0t (e:=45) (i:=0) (by kernel_rfl) (by kernel_rfl) (by kernel_rfl) h
theorem ib1 {b o n c:Nat}{H:Heap}(h:1 < n):dIndexAddr Tryz.prog 43 (.slice (some ⟨b,o,none⟩) n c) (.int .i64 1) H=some (.val (.pointer (some ⟨b,o+1*8,none⟩)) H):=z0t (e:=45) (i:=1) (by kernel_rfl) (by kernel_rfl) (by kernel_rfl) h
theorem ib2 {b o n c:Nat}{H:Heap}(h:2 < n):dIndexAddr Tryz.prog 43 (.slice (some ⟨b,o,none⟩) n c) (.int .i64 2) H=some (.val (.pointer (some ⟨b,o+2*8,none⟩)) H):=z0t (e:=45) (i:=2) (by kernel_rfl) (by kernel_rfl) (by kernel_rfl) h
structure BBox (H:Heap) (p:Nat) (rs:List (List Value)) (x:Nat) (e:List Value) (md i:Int):Prop where
 g0:H.get x=some (.row [ptr p] 55)
 g1:H.get (x+1)=some (.row e 45)
 g2:H.get (x+1+1)=some (.row [.int .i64 md] 3)
 g3:H.get (x+1+1+1)=some (.row [.int .i64 i] 3)
 o0:OffK H p rs x
 o1:OffK H p rs (x+1)
 o2:OffK H p rs (x+1+1)
 o3:OffK H p rs (x+1+1+1)
section
variable {H H':Heap}{B p x:Nat}{σ σ':MS}{rs:List (List Value)}{e:List Value}{md i:Int}
theorem BBox.to (h:BBox H p rs x e md i) (k:KX H H' p rs rs):BBox H' p rs x e md i :=
 ⟨(k.off h.o0).1.trans h.g0,(k.off h.o1).1.trans h.g1,(k.off h.o2).1.trans h.g2,(k.off h.o3).1.trans h.g3,(k.off h.o0).2.1,(k.off h.o1).2.1,(k.off h.o2).2.1,(k.off h.o3).2.1⟩
theorem BBox.ld {k:Int}{t:Tm}{ta a:Option Addr}{tc n c:Nat}(h:BBox H p rs x (eightT k t ta tc a n c) md i):H.load ⟨x,0,none⟩ 1=some [ptr p]/\H.load ⟨x+1+1,0,none⟩ 1=some [.int .i64 md]/\H.load ⟨x+1+1+1,0,none⟩ 1=some [.int .i64 i] /\
  H.load ⟨x+1,0,none⟩ 1=some [.int .i64 k]/\H.load ⟨x+1,1,none⟩ 6=some (six t ta tc)/\H.load ⟨x+1,6,none⟩ 1=some [.slice ta t.args.length tc]/\H.load ⟨x+1,7,none⟩ 1=some [.slice a n c]:=by
 have q:=row8 h.g1;exact⟨zfl h.g0,zfl h.g2,zfl h.g3,q.1,q.2.1,q.2.2.1,q.2.2.2.1⟩
theorem MkA.marked (h:MkA H B p σ rs) (hw:H.wf) (z:Int):∃V H2,H.load ⟨p,11,none⟩ 1=some [.int .i64 σ.marks]/\H.get p=some (.row V 58)/\11+1<=V.length/\H.put p (some (.row (Hb.splice V 11 [.int .i64 z]) 58))=H2/\MkA H2 B p { σ with marks:=z } rs/\KX H H2 p rs rs/\H2.wf:=by
 obtain⟨a2,c2,a4,c4,a5,c5,a6,c6,a7,c7,a8,c8,a9,c9,sv,cl,ts,hs,ht,hc,l0,l1,l2,l3,l4,l5,l6,l7,l8,l9,l10,l11,b2,b4,b5,b6,b7,b8,b9⟩:=h.open;obtain⟨hs2,sx⟩:=hs.setv hw (i:=11) (v':=.int .i64 z) rfl rfl rfl;obtain⟨h2,kx2⟩:=h.turn0 (σ':={ σ with marks:=z }) hw ht hc hs2 sx rfl rfl rfl;exact⟨_,_,l11,hs.obj,by simp,by rfl,h2,kx2,sx.wf⟩
set_option maxHeartbeats 4000000 in
theorem zpj {k:Int}{t:Tm}{ta:Option Addr}{tc n c bb oo N:Nat}{ed:List Value}(h:MkA H B p σ rs) (hw:H.wf) (bx:BBox H p rs x (eightT k t ta tc (some ⟨bb,oo,none⟩) n c) md i) (hn:1 < n) (ld1:H.load ⟨bb,oo+1*8,none⟩ 8=some ed)
  (hd:∀G,HX H G->MkA G B p σ rs->G.wf->EvF Tryz.prog okT 41 [ptr p,.agg ⟨ed⟩,.int .i64 md,.int .i64 i] G fun _ G'=>∃ σ',MkA G' B p σ' rs/\KX G G' p rs rs/\Gr σ σ' N/\G'.wf) (he:ed.length=8) :
  EvF Tryz.prog okT 66 [.pointer (some ⟨x,0,none⟩),.pointer (some ⟨x+1,0,none⟩),.pointer (some ⟨x+1+1,0,none⟩),.pointer (some ⟨x+1+1+1,0,none⟩)] H fun _ H'=>∃ σ',MkA H' B p σ' rs/\KX H H' p rs rs/\Gr σ σ' N/\H'.wf:=by
 match ed,he with
 |[d0,d1,d2,d3,d4,d5,d6,d7],_ =>
 obtain⟨Gb,ef,hxf,wf⟩:=z3l hw 8;obtain⟨hGb,kxf⟩:=h.keep hw hxf;have qf:=(bx.to kxf).ld;have ld1':=hxf.load hw ld1;refine EvF.enter rfl Tryz.func66 (by decide) rfl ?_
 repeat' (first|(refine qZj [([(0,0),(1,0),(2,0),(3,0),(4,0),(5,0),(6,0)],some 7),([],none)] ?_ ?_;kernel_rfl;simp (config:=qZc) (disch:=first|omega|rfl) only[sD,sB,initTm,Za,Zb,reduceCtorEq,ld55,z29,ld43,ld45,ld3,cl41,ef,qf,ld1',ib1,isAlloc,isRead]))
 refine(hd Gb hxf hGb wf).mono ?_;rintro v G3 ⟨σ5,h5,kx5,gr5,w5⟩
 repeat' (first|(refine z0p ?_;simp (config:=qZc) (disch:=first|omega|rfl) only[sD,z2c]))
 exact z0j rfl ⟨σ5,h5,kxf.trans kx5,gr5,w5⟩
set_option maxHeartbeats 4000000 in
theorem zi6 {k:Int}{t:Tm}{ta a:Option Addr}{tc n c N:Nat}(h:MkA H B p σ rs) (hw:H.wf) (bx:BBox H p rs x (eightT k t ta tc a n c) md i) (hn:n=2\/n=3) (hroom:Room σ 1) (hN:1<=N)
  (hd:n=3->∃bb oo ed,a=some ⟨bb,oo,none⟩/\ed.length=8/\H.load ⟨bb,oo+2*8,none⟩ 8=some ed/\∀G,HX H G->MkA G B p σ rs->G.wf->EvF Tryz.prog okT 41 [ptr p,.agg ⟨ed⟩,.int .i64 md,.int .i64 i] G fun _ G'=>∃ σ',MkA G' B p σ' rs/\KX G G' p rs rs/\Gr σ σ' N/\G'.wf) :
  EvF Tryz.prog okT 67 [.pointer (some ⟨x+1,0,none⟩),.pointer (some ⟨x,0,none⟩),.pointer (some ⟨x+1+1,0,none⟩),.pointer (some ⟨x+1+1+1,0,none⟩)] H fun _ H'=>∃ σ',MkA H' B p σ' rs/\KX H H' p rs rs/\Gr σ σ' N/\H'.wf:=by
 have q:=bx.ld;refine EvF.enter rfl Tryz.func67 (by decide) rfl ?_;rcases hn with rfl|rfl
 ·have k3:(((2:Nat):Int))≠3:=by omega
  repeat' (first|refine qZa ?_|(refine qZb ?_;simp (config:=qZc) (disch:=first|omega|rfl) only[sB,initTm,Za,Zb,reduceCtorEq,z29,ld43,ln43,ld55,cl38,q,z0g k3])|(refine qZm ?_ ?_;simp (config:=qZc) (disch:=first|omega|rfl) only[sB,Za,reduceCtorEq];refine z02 ?_))
  refine(z5h h hw _ _ _ hroom).mono ?_;rintro v G3 ⟨rfl,σ5,h5,kx5,gr5,-,w5⟩
  skip
  exact z0j rfl ⟨σ5,h5,kx5,gr5.up hN,w5⟩
 ·have k3:(((3:Nat):Int))=3:=rfl;obtain⟨bb,oo,ed,rfl,he,ld1,hd⟩:=hd rfl
  match ed,he with
  |[d0,d1,d2,d3,d4,d5,d6,d7],_ =>
  obtain⟨Gb,ef,hxf,wf⟩:=z3l hw 8;obtain⟨hGb,kxf⟩:=h.keep hw hxf;have qf:=(bx.to kxf).ld;have ld1':=hxf.load hw ld1;have h23:2 < 3:=by omega
  repeat' (first|refine qZa ?_|(refine qZb ?_;simp (config:=qZc) (disch:=first|omega|rfl) only[sB,initTm,Za,Zb,reduceCtorEq,z29,ld43,ln43,q,z0l k3])|(refine qZj [([(0,0),(1,0),(2,0),(3,0),(4,0),(5,0),(6,0)],some 7),([],none)] ?_ ?_;kernel_rfl;simp (config:=qZc) (disch:=first|omega|rfl) only[sD,sB,Za,Zb,reduceCtorEq,z29,ld43,ld55,ld45,ld3,cl41,ef,qf,ld1',ib2,isAlloc,isRead])|(refine qZd ?_ ?_;simp (config:=qZc) (disch:=first|omega|rfl) only[sB,Za,reduceCtorEq];refine z02 ?_))
  refine(hd Gb hxf hGb wf).mono ?_;rintro v G3 ⟨σ5,h5,kx5,gr5,w5⟩
  repeat' (first|(refine z0p ?_;simp (config:=qZc) (disch:=first|omega|rfl) only[sD,z2c]))
  exact z0j rfl ⟨σ5,h5,kxf.trans kx5,gr5,w5⟩
set_option maxHeartbeats 16000000 in
theorem ztf {H0:Heap}(hw0:H0.wf) (hB:H0.next<=B) (m:Nat):∀{u:Bdy}{cs:List Value}{H:Heap}{σ:MS}(md i:Int),SizeOf.sizeOf u < m->BOk u->MkA H B p σ rs->H.wf->RepB H0 u cs->HX H0 H->σ.seen.isSome=true->Room σ (3*szB u) ->
  EvF Tryz.prog okT 41 [ptr p,.agg ⟨cs⟩,.int .i64 md,.int .i64 i] H fun _ H'=>∃ σ',MkA H' B p σ' rs/\KX H H' p rs rs/\Gr σ σ' (3*szB u)/\H'.wf:=by
 induction m with
 |zero=>intro u cs H σ md i h;omega
 |succ m ih =>
 intro u cs H σ md i hsz hok h hw r hx0 hsn hroom;obtain⟨ts,a,c,cells,rfl,hk,rt,rl⟩:=r.inv;obtain⟨ta,tc,cellst,rfl,-,-,-,-,-,rlt⟩:=rt.six;show EvF Tryz.prog okT 41 [ptr p,.agg ⟨eightT u.kind u.term ta tc a u.sub.length c⟩,.int .i64 md,.int .i64 i] H _;refine EvF.enter rfl Tryz.func41 (by decide) rfl ?_;(repeat refine qZa ?_);refine qZb ?_;simp (config:=qZc) (disch:=first|omega|rfl) only[sB,initTm,dBox,Za,Zb,Value.cells,one,reduceCtorEq];obtain⟨H1,e1,hx1,g0,g1,g2,g3,n1,w1⟩:=new4 hw (.row [ptr p] 55) (.row (eightT u.kind u.term ta tc a u.sub.length c) 45) (.row [.int .i64 md] 3) (.row [.int .i64 i] 3);simp only[e1];clear e1;obtain⟨h1,kx1⟩:=h.keep hw hx1;have bx:BBox H1 p rs H.next (eightT u.kind u.term ta tc a u.sub.length c) md i:=⟨g0,g1,g2,g3,h.fresh hw hx1 (by omega) (by omega),h.fresh hw hx1 (by omega) (by omega),h.fresh hw hx1 (by omega) (by omega),h.fresh hw hx1 (by omega) (by omega)⟩
 clear g0 g1 g2 g3;have q:=bx.ld;have hsz1:1<=szB u:=by rw[z3g];omega
 have hx01:=kx1.hx h hx0 hB;rcases hok.inv with ⟨hk12,-⟩|⟨hk,hf,hnd,-⟩|⟨hk,hck,b,hsub,hb⟩|⟨hk,b,d,hsub,hb,hd⟩|⟨hk,b,d,hsub,hb,hd⟩|⟨hk,b,d,l,hsub,hb,hd,hl⟩
 ·by_cases hk2:u.kind=2;rotate_left
  ·have k3:u.kind≠3:=by omega
   have k4:u.kind≠4:=by omega
   have k5:u.kind≠5:=by omega
   have k6:u.kind≠6:=by omega
   have k7:u.kind≠7:=by omega
   repeat' (first|refine qZa ?_|refine qZg ?_|(refine qZe ?_;try simp only[z04])|(refine qZb ?_;simp (config:=qZc) (disch:=first|omega|rfl) only[sB,Za,reduceCtorEq,z14,ld3,q,z0g hk2,z0g k3,z0g k4,z0g k5,z0g k6,z0g k7])|(refine qZm ?_ ?_;simp (config:=qZc) (disch:=first|omega|rfl) only[sB,Za,reduceCtorEq];refine z02 ?_))
   exact z0j rfl ⟨σ,h1,kx1,Gr.refl.up (by omega),w1⟩
  by_cases hi:i < 0
  ·have hi':decide (i < 0)=true:=decide_eq_true hi
   repeat' (first|refine qZa ?_|refine qZg ?_|(refine qZb ?_;simp (config:=qZc) (disch:=first|omega|rfl) only[sB,Za,reduceCtorEq,z14,ld3,ld55,cl38,q,z0l hk2,hi'])|(refine qZd ?_ ?_;simp (config:=qZc) (disch:=first|omega|rfl) only[sB,Za,reduceCtorEq];refine z02 ?_))
   refine(z5h h1 w1 _ _ _ (hroom.le (by omega))).mono ?_;rintro v H2 ⟨rfl,σ2,h2,kx2,gr2,-,w2⟩
   skip
   exact z0j rfl ⟨σ2,h2,kx1.trans kx2,gr2.up (by omega),w2⟩
  ·have hi':decide (i < 0)=false:=decide_eq_false hi
   repeat' (first|refine qZa ?_|refine qZg ?_|(refine qZb ?_;simp (config:=qZc) (disch:=first|omega|rfl) only[sB,Za,reduceCtorEq,z14,ld3,ld55,cl38,q,z0l hk2,hi'])|(refine qZd ?_ ?_;simp (config:=qZc) (disch:=first|omega|rfl) only[sB,Za,reduceCtorEq];refine z02 ?_)|(refine qZm ?_ ?_;simp (config:=qZc) (disch:=first|omega|rfl) only[sB,Za,reduceCtorEq];refine z02 ?_))
   refine(z5h h1 w1 _ _ _ (hroom.le (by omega))).mono ?_;rintro v H2 ⟨rfl,σ2,h2,kx2,gr2,-,w2⟩
   skip
   exact z0j rfl ⟨σ2,h2,kx1.trans kx2,gr2.up (by omega),w2⟩
 ·have k2:u.kind≠2:=by omega
  have hmx:u.term.args.length<=9223372036854775807:=by have:=rlt.max;unfold maxLen at *;omega
  have hnda:=z1f u.term;have hszu:=z3g u
  repeat' (first|refine qZa ?_|refine qZg ?_|(refine qZb ?_;simp (config:=qZc) (disch:=first|omega|rfl) only[sB,Za,Zb,reduceCtorEq,z14,ld3,z5l,z0u,ld26,ln26,q,z0g k2,z0l hk])|(refine qZd ?_ ?_;simp (config:=qZc) (disch:=first|omega|rfl) only[sB,Za,reduceCtorEq];refine z02 ?_)|(refine qZm ?_ ?_;simp (config:=qZc) (disch:=first|omega|rfl) only[sB,Za,reduceCtorEq];refine z02 ?_))
  refine qZk (fun k' st=>∃tm G j σj,st=⟨tm,[],G⟩/\k'=u.term.args.length - j/\j<=u.term.args.length /\
    tm.get 4=some (.pointer (some ⟨H.next,0,none⟩))/\tm.get 5=some (.pointer (some ⟨H.next+1,0,none⟩))/\tm.get 6=some (.pointer (some ⟨H.next+1+1,0,none⟩))/\tm.get 28=some (.slice ta u.term.args.length tc)/\tm.get 29=some (.int .i64 (u.term.args.length:Nat))/\tm.get 30=some (.int .i64 (j:Nat)) /\
    MkA G B p σj rs/\KX H1 G p rs rs/\Gr σ σj (3*nd.ndL (u.term.args.take j))/\G.wf) ?_ u.term.args.length _ ?_
  rotate_left
  ·exact⟨_,_,0,σ,rfl,rfl,Zl _,(by simp only[sG,Za,reduceCtorEq]),(by simp only[sG,Za,reduceCtorEq]),(by simp only[sG,Za,reduceCtorEq]),(by simp only[sG,Za,reduceCtorEq]),(by simp only[sG,Za,reduceCtorEq]),(by simp only[sB,Za,reduceCtorEq];rfl),h1,⟨HK.refl w1,fun n q=>.inl q⟩,Gr.refl.up (Zl _),w1⟩
  rintro k' st ⟨tm,G,j,σj,rfl,rfl,hj,t4,t5,t6,t28,t29,t30,hG,kxG,grG,wG⟩;have hxG:HX H0 G:=kxG.hx h1 hx01 hB;have bG:=bx.to kxG;have qG:=bG.ld;by_cases hlt:j < u.term.args.length
  ·obtain⟨b,o,aj,cj,rfl,hld,hrj⟩:=rlt.el hlt;have ldG:=hxG.load hw0 hld;obtain⟨G1,eG1,hxG1,gG1,nG1,wG1⟩:=z0m wG (.row zero6 28) (.row (six u.term.args[j] aj cj) 28);have qG1:=row6 gG1;obtain⟨hG1,kxG1⟩:=hG.keep wG hxG1;have qB1:=(bG.to kxG1).ld;have e1:=zcb hlt;have e2:=z60 (l:=u.term.args) (j+1);have hsub:=Zu hlt
   repeat' (first|refine qZa ?_|refine qZg ?_|(refine qZe ?_;try simp only[z00])|(refine qZb ?_;simp (config:=qZc) (disch:=first|omega|rfl) only[sB,dAlloc,Za,Zb,one,ld55,ia26,ld28,zr28,st28,cl39,t4,t28,t29,t30,decl hlt,ldG,eG1,qG1,qB1])|(refine qZd ?_ ?_;simp (config:=qZc) (disch:=first|omega|rfl) only[sB];refine z02 ?_))
   refine(znb hw0 hB (SizeOf.sizeOf u.term.args[j]+1) (j:Nat) 12 12 13 14 (Zf _) hG1 wG1 hrj (hxG.trans hxG1) (hf.args _ hsub) (by omega) (grG.sn hsn) ((grG.room hroom (by omega)).le (by omega))).mono ?_;rintro v G2 ⟨σ2,hG2,kxG2,grG2,wG2⟩
   repeat' (first|(refine qZb ?_;simp (config:=qZc) (disch:=first|omega|rfl) only[sB,Za,t30,z0c]))
   exact⟨u.term.args.length - (j+1),by omega,_,_,j+1,σ2,rfl,rfl,by omega,(by simp only[sG,Za,t4]),(by simp only[sG,Za,t5]),(by simp only[sG,Za,t6]),(by simp only[sG,Za,t28]),(by simp only[sG,Za,t29]),(by simp only[sB,Za];rfl),hG2,(kxG.trans kxG1).trans kxG2,(grG.trans grG2).up (by omega),wG2⟩
  ·have hj':j=u.term.args.length:=by omega
   subst hj';rw[List.take_length] at grG;obtain⟨Gb,eb,hxb,wb⟩:=z3l wG 7;obtain⟨hGb,kxb⟩:=hG.keep wG hxb;have qb:=(bG.to kxb).ld
   repeat' (first|refine qZa ?_|(refine qZi ?_;try simp only[sB,reduceCtorEq])|(refine qZb ?_;simp (config:=qZc) (disch:=first|omega|rfl) only[sA,t29,t30,decn hlt])|(refine qZj (id:=12) [([(1,0),(2,0),(3,0)],some 4),([(0,0),(5,0)],some 6),([],none)] ?_ ?_;kernel_rfl;simp (config:=qZc) (disch:=first|omega|rfl) only[sD,sB,Za,Zb,reduceCtorEq,ld55,z5l,ld28,cl42,t4,t5,eb,qb,isAlloc,isRead])|(refine qZm ?_ ?_;simp (config:=qZc) (disch:=first|omega|rfl) only[sB];refine z02 ?_))
   refine(zfn hGb wb u.term ta tc (by have:=(grG.room hroom (by omega)).fs;omega)).mono ?_;rintro v G2 ⟨rfl,hG2,kxG2,wG2,-⟩;have qb2:=((bG.to kxb).to kxG2).ld
   repeat' (first|(refine z0p ?_;simp (config:=qZc) (disch:=first|omega|rfl) only[sV,sD,sB,Za,reduceCtorEq,ld3,ld55,cl38,t4,t6,qb,qb2,isAlloc,isRead]))
   refine(z5h hG2 wG2 _ _ _ (((grG.trans (Gr.fun (keyT u.term))).room hroom (by omega)).le (by omega))).mono ?_;rintro v G3 ⟨rfl,σ3,hG3,kxG3,grG3,-,wG3⟩
   repeat' (first|(refine z0p ?_;simp (config:=qZc) (disch:=first|omega|rfl) only[sD,z2c]))
   exact z0j rfl ⟨σ3,hG3,(kx1.trans kxG).trans ((kxb.trans kxG2).trans kxG3),((grG.trans (Gr.fun (keyT u.term))).trans grG3).up (by omega),wG3⟩
 ·have k2:u.kind≠2:=by omega
  have k3:u.kind≠3:=by omega
  have k4:u.kind≠4:=by omega
  have hszu:=z3g u;rw[hsub] at rl hszu;have hszs:=u.size;rw[hsub] at hszs;simp only[szB.szBL] at hszu;obtain⟨bb,oo,ua,uc,va,vc,rfl,ld0,r0⟩:=rl.sub8 (j:=0) (by simp);simp only[List.getElem_cons_zero] at ld0 r0;have hl1:u.sub.length=1:=by rw[hsub];rfl
  obtain⟨Hb,eb,hxb,wb⟩:=z3l w1 11;obtain⟨hb1,kxb⟩:=h1.keep w1 hxb;have qb:=(bx.to kxb).ld
  repeat' (first|refine qZa ?_|refine qZg ?_|(refine qZb ?_;simp (config:=qZc) (disch:=first|omega|rfl) only[sB,Za,reduceCtorEq,z14,ld3,q,z0g k2,z0g k3,z0g k4,z0l hk])|(refine qZj (id:=17) [([(5,0),(6,0),(7,0)],some 8),([(0,0),(1,0),(2,0),(3,0),(4,0),(9,0)],some 10),([],none)] ?_ ?_;kernel_rfl;simp (config:=qZc) (disch:=first|omega|rfl) only[sD,sB,Za,Zb,reduceCtorEq,ld55,z5l,ld28,cl43,eb,qb,isAlloc,isRead])|(refine qZd ?_ ?_;simp (config:=qZc) (disch:=first|omega|rfl) only[sB,Za,reduceCtorEq];refine z02 ?_)|(refine qZm ?_ ?_;simp (config:=qZc) (disch:=first|omega|rfl) only[sB,Za,reduceCtorEq];refine z02 ?_))
  refine(z9p hb1 wb (rt.mono (hx01.trans hxb) hw0) hck (by have:=hroom.cs;omega)).mono ?_;rintro v H2 ⟨rfl,h2,kx2,w2,-⟩;have kx02:=kxb.trans kx2;have hx2:=kx02.hx h1 hx01 hB;have q2:=(bx.to kx02).ld;have ld0b:=(hx01.trans hxb).load hw0 ld0;have ld0':=hx2.load hw0 ld0
  repeat' (first|(refine z0p ?_;simp (config:=qZc) (disch:=first|omega|rfl) only[sV,sD,sB,Za,reduceCtorEq,ld3,ld55,z29,ld43,ld45,cl41,qb,q2,hl1,ld0',ld0b,ib0,isAlloc,isRead]))
  refine(ih (u:=b) (posT σ.consts u.term:Nat) i (by have:=hszs b (by simp);omega) hb h2 w2 r0 hx2 hsn (((Gr.cst u.term).room hroom (by omega)).le (by omega))).mono ?_;rintro v H3 ⟨σ3,h3,kx3,gr3,w3⟩
  repeat' (first|(refine z0p ?_;simp (config:=qZc) (disch:=first|omega|rfl) only[sD,z2c]))
  exact z0j rfl ⟨σ3,h3,(kx1.trans kx02).trans kx3,((Gr.cst u.term).trans gr3).up (by omega),w3⟩
 ·have k2:u.kind≠2:=by omega
  have k3:u.kind≠3:=by omega
  have hszu:=z3g u;rw[hsub] at rl hszu;have hszs:=u.size;rw[hsub] at hszs;simp only[szB.szBL] at hszu;obtain⟨bb,oo,ua,uc,va,vc,rfl,ld0,r0⟩:=rl.sub8 (j:=0) (by simp);obtain⟨bb',oo',ua',uc',va',vc',e,ld1,r1⟩:=rl.sub8 (j:=1) (by simp);cases e;simp only[List.getElem_cons_zero,List.getElem_cons_succ] at ld0 r0 ld1 r1;have hl2:u.sub.length=2:=by rw[hsub];rfl
  obtain⟨Hb,eb,hxb,wb⟩:=z3l w1 8;obtain⟨hb1,kxb⟩:=h1.keep w1 hxb;have qb:=(bx.to kxb).ld;have ld0':=(hx01.trans hxb).load hw0 ld0
  repeat' (first|refine qZa ?_|refine qZg ?_|(refine qZb ?_;simp (config:=qZc) (disch:=first|omega|rfl) only[sB,Za,reduceCtorEq,z14,ld3,q,z0g k2,z0g k3,z0l hk,hl2])|(refine qZj (id:=14) [([(0,0),(1,0),(2,0),(3,0),(4,0),(5,0),(6,0)],some 7),([],none)] ?_ ?_;kernel_rfl;simp (config:=qZc) (disch:=first|omega|rfl) only[sD,sB,Za,Zb,reduceCtorEq,ld3,ld55,z29,ld43,ld45,cl41,eb,qb,hl2,ld0',ib0,isAlloc,isRead])|(refine qZd ?_ ?_;simp (config:=qZc) (disch:=first|omega|rfl) only[sB,Za,reduceCtorEq];refine z02 ?_)|(refine qZm ?_ ?_;simp (config:=qZc) (disch:=first|omega|rfl) only[sB,Za,reduceCtorEq];refine z02 ?_))
  refine(ih (u:=b) md i (by have:=hszs b (by simp);omega) hb hb1 wb r0 (hx01.trans hxb) hsn (hroom.le (by omega))).mono ?_;rintro v H2 ⟨σ2,h2,kx2,gr2,w2⟩;obtain⟨Hc,ec,hxc,wc⟩:=z3l w2 8;obtain⟨hc1,kxc⟩:=h2.keep w2 hxc;have kx02:=kxb.trans kx2;have q2:=(bx.to kx02).ld;have qc:=((bx.to kx02).to kxc).ld;have hxc0:=(kx02.hx h1 hx01 hB).trans hxc;have ld1':=hxc0.load hw0 ld1
  repeat' (first|(refine qZj (id:=15) [([(0,0),(1,0),(2,0),(3,0),(4,0),(5,0),(6,0)],some 7),([],none)] ?_ ?_;kernel_rfl;simp (config:=qZc) (disch:=first|omega|rfl) only[sD,sB,Za,Zb,reduceCtorEq,ld3,ld55,z29,ld43,ld45,cl41,ec,qc,hl2,ld1',ib1,isAlloc,isRead])|(refine z0p ?_;simp (config:=qZc) (disch:=first|omega|rfl) only[sD,z2c]))
  refine(ih (u:=d) md i (by have:=hszs d (by simp);omega) hd hc1 wc r1 hxc0 (gr2.sn hsn) ((gr2.room hroom (by omega)).le (by omega))).mono ?_;rintro v H3 ⟨σ3,h3,kx3,gr3,w3⟩
  repeat' (first|(refine z0p ?_;simp (config:=qZc) (disch:=first|omega|rfl) only[sD,z2c]))
  exact z0j rfl ⟨σ3,h3,(kx1.trans kx02).trans (kxc.trans kx3),(gr2.trans gr3).up (by omega),w3⟩
 ·have k2:u.kind≠2:=by omega
  have k3:u.kind≠3:=by omega
  have k4:u.kind≠4:=by omega
  have k7:u.kind≠7:=by omega
  have hszu:=z3g u;rw[hsub] at rl hszu;have hszs:=u.size;rw[hsub] at hszs;simp only[szB.szBL] at hszu;have hnd1:=zc5 u.term;obtain⟨bb,oo,ua,uc,va,vc,rfl,ld0,r0⟩:=rl.sub8 (j:=0) (by simp);obtain⟨bb',oo',ua',uc',va',vc',e,ld1,r1⟩:=rl.sub8 (j:=1) (by simp);cases e;simp only[List.getElem_cons_zero,List.getElem_cons_succ] at ld0 r0 ld1 r1;have hl2:u.sub.length=2:=by rw[hsub];rfl
  repeat' (first|refine qZa ?_|refine qZg ?_|(refine qZb ?_;simp (config:=qZc) (disch:=first|omega|rfl) only[sB,Za,reduceCtorEq,z14,ld3,ld55,cl38,q,z0g k2,z0g k3,z0g k4,z0g k7,z0l hk])|(refine qZd ?_ ?_;simp (config:=qZc) (disch:=first|omega|rfl) only[sB,Za,reduceCtorEq];refine z02 ?_)|(refine qZm ?_ ?_;simp (config:=qZc) (disch:=first|omega|rfl) only[sB,Za,reduceCtorEq];refine z02 ?_))
  refine(z5h h1 w1 _ _ _ (hroom.le (by omega))).mono ?_;rintro v H2 ⟨rfl,σ2,h2,kx2,gr2,hlen2,w2⟩;have q2:=(bx.to kx2).ld;obtain⟨Hb,eb,hxb,wb⟩:=z3l w2 8;obtain⟨hb1,kxb⟩:=h2.keep w2 hxb;have kx0b:=kx2.trans kxb;have hxb0:=kx0b.hx h1 hx01 hB;have qb:=(bx.to kx0b).ld;have ld0':=hxb0.load hw0 ld0
  repeat' (first|refine qZa ?_|(refine qZj (id:=20) [([(0,0),(1,0),(2,0),(3,0),(4,0),(5,0),(6,0)],some 7),([],none)] ?_ ?_;kernel_rfl;simp (config:=qZc) (disch:=first|omega|rfl) only[sD,sB,Za,Zb,reduceCtorEq,ld3,ld55,z29,ld43,ld45,cl41,eb,qb,hl2,ld0',ib0,isAlloc,isRead]))
  refine(ih (u:=b) md i (by have:=hszs b (by simp);omega) hb hb1 wb r0 hxb0 (gr2.sn hsn) ((gr2.room hroom (by omega)).le (by omega))).mono ?_;rintro v H3 ⟨σ3,h3,kx3,gr3,w3⟩;have kx03:=kx0b.trans kx3;have b3:=bx.to kx03;have q3:=b3.ld;have gr03:=gr2.trans gr3;have hx03:=kx03.hx h1 hx01 hB
  repeat' (first|(refine qZb ?_;simp (config:=qZc) (disch:=first|omega|rfl) only[sB,Za,reduceCtorEq,ld55,cl65,q3,List.map_toArray])|(refine z0p ?_;simp (config:=qZc) (disch:=first|omega|rfl) only[sD,z2c]))
  refine(zi5 (n:=3*szB d) zuz h3 w3 (k:=σ.ins.length) (by have:=gr3.ins0;omega) ((gr03.room hroom (by omega)).le (by omega)) fun G1 σ4 kxG hG grG wG=>?_).mono ?_;rotate_left
  ·rintro v H4 ⟨σ4,h4,kx4,gr4,w4⟩
   skip
   exact z0j rfl ⟨σ4,h4,(kx1.trans kx03).trans kx4,(gr03.trans gr4).up (by omega),w4⟩
  have bG:=b3.to kxG;have hxG:=kxG.hx h3 hx03 hB;refine zpj hG wG bG (by omega) (hxG.load hw0 ld1) (fun G hx hGm hGw=>ih (u:=d) md i (by have:=hszs d (by simp);omega) hd hGm hGw r1 (hxG.trans hx) (grG.sn (gr03.sn hsn)) (((gr03.trans grG).room hroom (by omega)).le (by omega))) rfl
 ·have k2:u.kind≠2:=by omega
  have k3:u.kind≠3:=by omega
  have k4:u.kind≠4:=by omega
  have k7:u.kind≠7:=by omega
  have k5:u.kind≠5:=by omega
  have hszu:=z3g u;rw[hsub] at rl hszu;have hszs:=u.size;rw[hsub] at hszs;simp only[szB.szBL] at hszu;have hnd1:=zc5 u.term;obtain⟨bb,oo,ua,uc,va,vc,rfl,ld0,r0⟩:=rl.sub8 (j:=0) (by simp);obtain⟨bb',oo',ua',uc',va',vc',e,ld1,r1⟩:=rl.sub8 (j:=1) (by simp);cases e;simp only[List.getElem_cons_zero,List.getElem_cons_succ] at ld0 r0 ld1 r1;have hl2:1 < u.sub.length:=by rw[hsub];simp
  have hl0:0 < u.sub.length:=by omega
  obtain⟨V,H2,l11,gV,hV,e2,h2,kx2,w2⟩:=h1.marked w1 (IntKind.i64.wrap (σ.marks+1));have q2:=(bx.to kx2).ld
  repeat' (first|refine qZa ?_|refine qZg ?_|(refine qZb ?_;simp (config:=qZc) (disch:=first|omega|rfl) only[sB,Za,Zb,one,reduceCtorEq,z14,ld3,ld55,cl38,zqj,st3,z0d,z0o,q,z0g k2,z0g k3,z0g k4,z0g k5,z0g k7,z0l hk,l11,gV,hV,e2,q2])|(refine qZd ?_ ?_;simp (config:=qZc) (disch:=first|omega|rfl) only[sB,Za,reduceCtorEq];refine z02 ?_)|(refine qZm ?_ ?_;simp (config:=qZc) (disch:=first|omega|rfl) only[sB,Za,reduceCtorEq];refine z02 ?_))
  have gr2:=Gr.mark (σ:=σ) (IntKind.i64.wrap (σ.marks+1));refine(z5h h2 w2 _ _ _ ((gr2.room hroom (by omega)).le (by omega))).mono ?_;rintro v H3 ⟨rfl,σ3,h3,kx3,gr3,-,w3⟩;have kx03:=kx2.trans kx3;have gr03:=gr2.trans gr3;have q3:=(bx.to kx03).ld
  repeat' (first|refine qZa ?_|(refine qZb ?_;simp (config:=qZc) (disch:=first|omega|rfl) only[sB,Za,reduceCtorEq,ld55,cl38,q3]))
  refine(z5h h3 w3 _ _ _ ((gr03.room hroom (by omega)).le (by omega))).mono ?_;rintro v H4 ⟨rfl,σ4,h4,kx4,gr4,hlen4,w4⟩;have kx04:=kx03.trans kx4;have gr04:=gr03.trans gr4;have q4:=(bx.to kx04).ld;obtain⟨Hb,eb,hxb,wb⟩:=z3l w4 8;obtain⟨hb1,kxb⟩:=h4.keep w4 hxb;have kx0b:=kx04.trans kxb;have hxb0:=kx0b.hx h1 hx01 hB;have qb:=(bx.to kx0b).ld;have ld0':=hxb0.load hw0 ld0
  repeat' (first|refine qZa ?_|(refine qZj (id:=27) [([(0,0),(1,0),(2,0),(3,0),(4,0),(5,0),(6,0)],some 7),([],none)] ?_ ?_;kernel_rfl;simp (config:=qZc) (disch:=first|omega|rfl) only[sD,sB,Za,Zb,reduceCtorEq,ld3,ld55,z29,ld43,ld45,cl41,eb,qb,ld0',ib0,isAlloc,isRead]))
  refine(ih (u:=b) md σ.marks (by have:=hszs b (by simp);omega) hb hb1 wb r0 hxb0 (gr04.sn hsn) ((gr04.room hroom (by omega)).le (by omega))).mono ?_;rintro v H5 ⟨σ5,h5,kx5,gr5,w5⟩;have kx05:=kx0b.trans kx5;have gr05:=gr04.trans gr5;have q5:=(bx.to kx05).ld
  repeat' (first|refine qZa ?_|(refine qZb ?_;simp (config:=qZc) (disch:=first|omega|rfl) only[sB,Za,reduceCtorEq,ld55,cl38,q5])|(refine z0p ?_;simp (config:=qZc) (disch:=first|omega|rfl) only[sD,z2c]))
  refine(z5h h5 w5 _ _ _ ((gr05.room hroom (by omega)).le (by omega))).mono ?_;rintro v H6 ⟨rfl,σ6,h6,kx6,gr6,-,w6⟩;have kx06:=kx05.trans kx6;have gr06:=gr05.trans gr6;have q6:=(bx.to kx06).ld;obtain⟨Hc,ec,hxc,wc⟩:=z3l w6 8;obtain⟨hc1,kxc⟩:=h6.keep w6 hxc;have kx0c:=kx06.trans kxc;have hxc0:=kx0c.hx h1 hx01 hB;have qc:=(bx.to kx0c).ld;have ld1':=hxc0.load hw0 ld1
  repeat' (first|refine qZa ?_|(refine qZj (id:=29) [([(0,0),(1,0),(2,0),(3,0),(4,0),(5,0),(6,0)],some 7),([],none)] ?_ ?_;kernel_rfl;simp (config:=qZc) (disch:=first|omega|rfl) only[sD,sB,Za,Zb,reduceCtorEq,ld3,ld55,z29,ld43,ld45,cl41,ec,qc,ld1',ib1,isAlloc,isRead]))
  refine(ih (u:=d) md i (by have:=hszs d (by simp);omega) hd hc1 wc r1 hxc0 (gr06.sn hsn) ((gr06.room hroom (by omega)).le (by omega))).mono ?_;rintro v H7 ⟨σ7,h7,kx7,gr7,w7⟩;have kx07:=kx0c.trans kx7;have gr07:=gr06.trans gr7;have b7:=bx.to kx07;have q7:=b7.ld;have hx07:=kx07.hx h1 hx01 hB
  repeat' (first|(refine qZb ?_;simp (config:=qZc) (disch:=first|omega|rfl) only[sB,Za,reduceCtorEq,ld55,cl65,q7,List.map_toArray])|(refine z0p ?_;simp (config:=qZc) (disch:=first|omega|rfl) only[sD,z2c]))
  refine(zi5 (n:=1+3*szB.szBL l) zv0 h7 w7 (k:=σ3.ins.length) (by have:=gr5.ins0;have:=gr6.ins0;have:=gr7.ins0;omega) ((gr07.room hroom (by omega)).le (by omega)) fun G1 σ8 kxG hG grG wG=>?_).mono ?_;rotate_left
  ·rintro v H8 ⟨σ8,h8,kx8,gr8,w8⟩
   skip
   exact z0j rfl ⟨σ8,h8,(kx1.trans kx07).trans kx8,(gr07.trans gr8).up (by omega),w8⟩
  have bG:=b7.to kxG;have hxG:=kxG.hx h7 hx07 hB;rcases hl with rfl|⟨ee,rfl,hee⟩
  ·exact zi6 hG wG bG (.inl (by rw[hsub];rfl)) (((gr07.trans grG).room hroom (by omega)).le (by omega)) (by omega) fun q=>by rw[hsub] at q;cases q
  ·simp only[szB.szBL] at hszu;obtain⟨bb2,oo2,ue,ve,xe,ye,e,ld2,r2⟩:=rl.sub8 (j:=2) (by simp);cases e;simp only[List.getElem_cons_zero,List.getElem_cons_succ] at ld2 r2;exact zi6 hG wG bG (.inr (by rw[hsub];rfl)) (((gr07.trans grG).room hroom (by omega)).le (by omega)) (by omega) fun _=>⟨bb,oo,_,rfl,rfl,hxG.load hw0 ld2,fun G hx hGm hGw=>(ih (u:=ee) md i (by have:=hszs ee (by simp);omega) hee hGm hGw r2 (hxG.trans hx) (grG.sn (gr07.sn hsn)) (((gr07.trans grG).room hroom (by omega)).le (by omega))).mono fun _ _ ⟨σ9,a1,a2,a3,a4⟩=>⟨σ9,a1,a2,a3.up (by simp only[szB.szBL];omega),a4⟩⟩
end
end Go.Proofs.hq
end
