import Derived.Test.YtopekindmbjeoaaGreatDoorM3
import Derived.Test.YtopekindmbjeoaaGreatDoorM6
import Derived.Test.YtopekindmbjeoaaGreatDoorM4
import Derived.Test.YtopekindmbjeoaaGreatDoorM5
/- Lemmas on the program's own code, towards the laws of this folder, part 7. Conditions: as each lemma says. -/
open Bool renaming false_eq_true → Zd, not_false → Zt, not_true → Zp
open ByteArray renaming empty → Ze
open Int renaming reduceToNat → Zv
open List renaming cons_append → ZK, drop_eq_getElem_cons → ZB, getElem?_eq_getElem → Zc, getElem?_eq_none → Zy, getElem?_map → ZG, getElem?_take → ZF, getElem_mem → Zx, length_append → Zw, length_cons → ZE, length_map → Zq, length_take → Zl, map_append → ZD, map_cons → ZC, map_map → ZI, range → Zj, take_append_getElem → ZA, take_of_length_le → Zi
open Nat renaming beq_eq → Zr, le_refl → Zg, le_trans → Zo, lt_of_lt_of_le → Zh, lt_succ_self → Zf, one_mul → ZL, reduceAdd → Zb, reduceEqDiff → Za, reduceLeDiff → Zk, zero_le → Zs, zero_mul → Zu
section
namespace Go.Proofs.hq
open Go Go.RowKit Go.Hb
variable {ok:Ok}
set_option maxRecDepth 10000
attribute [local irreducible] LX LG EL STG SOP SGO SGD SAL SRD SEF SEG SLK SCK ES
def RdC (H:Heap) (c:Cls) (cs:List Value):Prop:=∃ha hc ta tc a k,cs=fift c.head ha hc c.body.kind c.body.term ta tc a c.body.sub.length k c.vars∧RepT H c.head (six c.head ha hc)∧RepB H c.body (eightT c.body.kind c.body.term ta tc a c.body.sub.length k)
theorem RepC.rd {H:Heap}{S:Nat→Prop}{c:Cls}{cs:List Value}(h:RepC H S c cs):RdC H c cs:=by
 obtain⟨ha,hc,ta,tc,a,k,h1,h2,h3⟩:=h;exact⟨ha,hc,ta,tc,a,k,h1,h2.rep,h3.rep⟩
theorem RdC.mono {H H':Heap}{c:Cls}{cs:List Value}(h:RdC H c cs) (hx:HX H H') (hw:H.wf):RdC H' c cs:=by
 obtain⟨ha,hc,ta,tc,a,k,h1,h2,h3⟩:=h;exact⟨ha,hc,ta,tc,a,k,h1,h2.mono hx hw,h3.mono hx hw⟩
noncomputable def eqB (b b':Bdy):Bool:=@decide (b=b') (Classical.propDecidable _)
theorem zaa {t t':Bdy}(h:t=t'):eqB t t'=true:=by unfold eqB;exact @decide_eq_true _ (Classical.propDecidable _) h
theorem z79 {t t':Bdy}(h:t≠t'):eqB t t'=false:=by unfold eqB;exact @decide_eq_false _ (Classical.propDecidable _) h
theorem zms {b b':Bdy}(h1:b.kind=b'.kind) (h2:b.term=b'.term) (h3:b.sub=b'.sub):b=b':=by
 obtain⟨k,t,l⟩:=b;obtain⟨k',t',l'⟩:=b';obtain rfl:k=k':=h1;obtain rfl:t=t':=h2;obtain rfl:l=l':=h3;rfl
noncomputable def eqC (b b':Cls):Bool:=@decide (b=b') (Classical.propDecidable _)
theorem zon {t t':Cls}(h:t=t'):eqC t t'=true:=by unfold eqC;exact @decide_eq_true _ (Classical.propDecidable _) h
theorem zoo {t t':Cls}(h:t≠t'):eqC t t'=false:=by unfold eqC;exact @decide_eq_false _ (Classical.propDecidable _) h
theorem zmt {b b':Cls}(h1:b.head=b'.head) (h2:b.body=b'.body) (h3:b.vars=b'.vars):b=b':=by
 obtain⟨k,t,l⟩:=b;obtain⟨k',t',l'⟩:=b';obtain rfl:k=k':=h1;obtain rfl:t=t':=h2;obtain rfl:l=l':=h3;rfl
set_option maxHeartbeats 4000000 in
theorem zf5 {m:Nat}:∀{t t':Tm}{cs cs':List Value}{H:Heap},SizeOf.sizeOf t < m→RepT H t cs→RepT H t' cs'→H.wf →
  EvF Tryz.prog okT 60 [.agg ⟨cs⟩,.agg ⟨cs'⟩] H fun v H'=>v=.bool (eqT t t')∧HX H H':=by
 induction m with
 |zero=>intro t t' cs cs' H h;omega
 |succ m ih =>
 intro t t' cs cs' H hsz r r' hw;obtain⟨a,c,cells,rfl,b1,b2,b3,b4,b5,rl⟩:=r.six;obtain⟨a',c',cells',rfl,b1',b2',b3',b4',b5',rl'⟩:=r'.six;refine EvF.enter rfl Tryz.func60 (by decide) rfl ?_;(repeat refine EvC.seq ?_);refine EvC.reg ?_;simp (config := { maxSteps := 2000000 }) (disch:=first|omega|rfl) only[sB,initTm,dBox,Za,Value.cells,one,reduceCtorEq];obtain⟨H2,e2,hx2,gp,gq,hnx,hw2⟩:=new2 hw (.row (six t a c) 25) (.row (six t' a' c') 25);simp only[e2];have q1:=row6 gp;have q2:=row6 gq;clear e2;by_cases k1:t.kind=t'.kind;rotate_left
 ·repeat' (first|refine EvC.seq ?_|(refine EvC.ret ?_;try simp only[z04,z02])|(refine EvC.reg ?_;simp (config := { maxSteps := 2000000 }) only[sB,Za,reduceCtorEq,z0g,ld3,z1j k1,q1,q2])|(refine EvC.condT ?_ ?_;simp (config := { maxSteps := 2000000 }) only[sB,Za,reduceCtorEq];refine z07 ?_))
  exact z03 rfl (by simp only[sB,Za,reduceCtorEq];rfl) ⟨by rw[z3y (fun h=>k1 (by rw[h]))],hx2⟩
 by_cases k2:t.name=t'.name;rotate_left
 ·repeat' (first|refine EvC.seq ?_|(refine EvC.ret ?_;try simp only[z04,z02])|(refine EvC.reg ?_;simp (config := { maxSteps := 2000000 }) only[sB,Za,reduceCtorEq,z0g,ld3,z16,ld9,z0z k1,q1,q2,z0y,z9j k2,Zt,Zd])|(refine EvC.condT ?_ ?_;simp (config := { maxSteps := 2000000 }) only[sB,Za,reduceCtorEq];refine z07 ?_))
  exact z03 rfl (by simp only[sB,Za,reduceCtorEq];rfl) ⟨by rw[z3y (fun h=>k2 (by rw[h]))],hx2⟩
 by_cases k3:t.num=t'.num;rotate_left
 ·repeat' (first|refine EvC.seq ?_|(refine EvC.ret ?_;try simp only[z04,z02])|(refine EvC.reg ?_;simp (config := { maxSteps := 2000000 }) only[sB,Za,reduceCtorEq,z0g,ld3,z16,ld9,z5s,z0z k1,q1,q2,z0y,z23 k2,z9j k3,Zt,Zp,Zd])|(refine EvC.condT ?_ ?_;simp (config := { maxSteps := 2000000 }) only[sB,Za,reduceCtorEq];refine z07 ?_))
  exact z03 rfl (by simp only[sB,Za,reduceCtorEq];rfl) ⟨by rw[z3y (fun h=>k3 (by rw[h]))],hx2⟩
 by_cases k4:t.bits=t'.bits;rotate_left
 ·repeat' (first|refine EvC.seq ?_|(refine EvC.ret ?_;try simp only[z04,z02])|(refine EvC.reg ?_;simp (config := { maxSteps := 2000000 }) only[sB,Za,reduceCtorEq,z0g,ld3,z16,ld9,z5s,z81,ld22,z0z k1,q1,q2,z0y,z23 k2,z23 k3,z1j k4,Zp,Zd])|(refine EvC.condT ?_ ?_;simp (config := { maxSteps := 2000000 }) only[sB,Za,reduceCtorEq];refine z07 ?_))
  exact z03 rfl (by simp only[sB,Za,reduceCtorEq];rfl) ⟨by rw[z3y (fun h=>k4 (by rw[h]))],hx2⟩
 by_cases k5:t.var=t'.var;rotate_left
 ·repeat' (first|refine EvC.seq ?_|(refine EvC.ret ?_;try simp only[z04,z02])|(refine EvC.reg ?_;simp (config := { maxSteps := 2000000 }) only[sB,Za,reduceCtorEq,z0g,ld3,z16,ld9,z5s,z81,ld22,z4m,z0z k1,q1,q2,z0y,z23 k2,z23 k3,z0z k4,z1j k5,Zp,Zd])|(refine EvC.condT ?_ ?_;simp (config := { maxSteps := 2000000 }) only[sB,Za,reduceCtorEq];refine z07 ?_))
  exact z03 rfl (by simp only[sB,Za,reduceCtorEq];rfl) ⟨by rw[z3y (fun h=>k5 (by rw[h]))],hx2⟩
 by_cases k6:(t.args.length:Int)=t'.args.length;rotate_left
 ·repeat' (first|refine EvC.seq ?_|(refine EvC.ret ?_;try simp only[z04,z02])|(refine EvC.reg ?_;simp (config := { maxSteps := 2000000 }) only[sB,Za,reduceCtorEq,z0g,ld3,z16,ld9,z5s,z81,ld22,z4m,z0j,ld23,ln23,z0z k1,q1,q2,z0y,z23 k2,z23 k3,z0z k4,z0z k5,z1j k6,Zp,Zd])|(refine EvC.condT ?_ ?_;simp (config := { maxSteps := 2000000 }) only[sB,Za,reduceCtorEq];refine z07 ?_))
  exact z03 rfl (by simp only[sB,Za,reduceCtorEq];rfl) ⟨by rw[z3y (fun h=>k6 (by rw[h]))],hx2⟩
 repeat' (first|refine EvC.seq ?_|refine EvC.block ?_|(refine EvC.skip ?_;try simp only[z00])|(refine EvC.reg ?_;simp (config := { maxSteps := 2000000 }) only[sB,Za,reduceCtorEq,z0g,ld3,z16,ld9,z5s,z81,ld22,z4m,z0j,ld23,ln23,z0z k1,q1,q2,z0y,z23 k2,z23 k3,z0z k4,z0z k5,z0z k6,Zp,Zd])|(refine EvC.condF ?_ ?_;simp (config := { maxSteps := 2000000 }) only[sB,Za,reduceCtorEq];refine z07 ?_))
 have hlen:t.args.length=t'.args.length:=by omega
 have hm:=rl.max;refine EvC.loop (fun k st=>∃tm H' i,st=⟨tm,[],H'⟩∧k=t.args.length - i∧i≤t.args.length∧(∀j,j < i→t.args[j]?=t'.args[j]?) ∧
   tm.get 2=some (.pointer (some ⟨H.next,0,none⟩))∧tm.get 3=some (.pointer (some ⟨H.next+1,0,none⟩))∧tm.get 50=some (.int .i64 t.args.length)∧tm.get 51=some (.int .i64 (i:Nat)) ∧
   H'.get H.next=some (.row (six t a c) 25)∧H'.get (H.next+1)=some (.row (six t' a' c') 25)∧HX H H') ?_ t.args.length _ ?_
 ·rintro k st ⟨tm,H',i,rfl,rfl,hi,hc,t2,t3,t50,t51,gp',gq',hx'⟩;have q1:=row6 gp';have q2:=row6 gq';by_cases hlt:i < t.args.length
  ·have hlt':i < t'.args.length:=by omega
   obtain⟨b,o,a1,c1,rfl,hld,hr1⟩:=rl.el hlt;obtain⟨b',o',a2,c2,rfl,hld',hr2⟩:=rl'.el hlt';have hld1:=hx'.load hw hld;have hld2:=hx'.load hw hld'
   repeat' (first|refine EvC.seq ?_|refine EvC.block ?_|(refine EvC.skip ?_;try simp only[z00])|(refine EvC.reg ?_;simp (config := { maxSteps := 2000000 }) only[sB,Za,t50,t51,decl hlt])|(refine EvC.drw [([(0,0),(1,0),(2,0),(3,0),(4,0),(5,0),(6,0),(7,0),(8,0),(9,0)],some 10),([(11,1)],none)] ?_ ?_;kernel_rfl;simp (config := { maxSteps := 2000000 }) (disch:=first|omega|rfl) only[sD,sB,Za,Zb,reduceCtorEq,z0j,ld23,ia23,ld25,cl60,t2,t3,q1,q2,hld1,hld2,isAlloc,isRead])|(refine EvC.condT ?_ ?_;simp (config := { maxSteps := 2000000 }) only[sB];refine z07 ?_))
   have hb:=hx'.bump 12;have hs:=z15 (Zc hlt);refine(ih (t:=t.args[i]) (t':=t'.args[i]) (by omega) (hr1.mono hb hw) (hr2.mono hb hw) hb.wf).mono ?_;rintro v H4 ⟨rfl,hx4⟩;have hx5:=hb.trans hx4;by_cases he:t.args[i]=t'.args[i]
   ·repeat' (first|(refine EvC.skip ?_;try simp only[sA])|(refine EvC.reg ?_;simp (config := { maxSteps := 2000000 }) (disch:=first|omega|rfl) only[sB,Za,t51,z0b])|(refine z0h ?_;simp (config := { maxSteps := 2000000 }) only[sD,sB,Za,z5n he,Zp,isAlloc,isRead])|(refine EvC.condF ?_ ?_;simp (config := { maxSteps := 2000000 }) only[sB,Za];refine z07 ?_))
    refine⟨t.args.length - (i+1),by omega,_,_,i+1,rfl,rfl,by omega,fun j hj=>?_,(by simp only[sG,Za,t2]),(by simp only[sG,Za,t3]),(by simp only[sG,Za,t50]),(by simp only[sB,Za];rfl),hx4.get hb.wf gp',hx4.get hb.wf gq',hx5⟩;by_cases hji:j=i
    ·subst hji;rw[Zc hlt,Zc hlt',he]
    ·exact hc j (by omega)
   ·repeat' (first|refine EvC.seq ?_|(refine EvC.ret ?_;try simp only[z04,z02])|(refine EvC.reg ?_;simp (config := { maxSteps := 2000000 }) only[sA])|(refine z0h ?_;simp (config := { maxSteps := 2000000 }) only[sD,sB,Za,z3y he,Zt,isAlloc,isRead])|(refine EvC.condT ?_ ?_;simp (config := { maxSteps := 2000000 }) only[sB,Za];refine z07 ?_))
    refine z03 rfl (by simp only[sB,Za];rfl) ⟨?_,hx5⟩;rw[z3y];rintro rfl;exact he rfl
  ·repeat' (first|refine EvC.seq ?_|(refine EvC.exit ?_;try simp only[sB])|(refine EvC.ret ?_)|(refine EvC.reg ?_;simp (config := { maxSteps := 2000000 }) only[sA,t50,t51,decn hlt])|(refine EvC.condF ?_ ?_;simp (config := { maxSteps := 2000000 }) only[sB];refine z07 ?_))
   refine z03 rfl (by simp only[sB,Za];rfl) ⟨?_,hx'⟩;rw[z5n];refine zpy k1 k2 k3 k4 k5 (List.ext_getElem? fun j=>?_);by_cases hj:j < i
   ·exact hc j hj
   ·rw[Zy (by omega),Zy (by omega)]
 ·exact⟨_,_,0,rfl,rfl,by omega,by omega,(by simp only[sG,Za,reduceCtorEq]),(by simp only[sG,Za,reduceCtorEq]),(by simp only[sG,Za,reduceCtorEq]),(by simp only[sB,Za,reduceCtorEq];rfl),gp,gq,hx2⟩
set_option maxHeartbeats 8000000 in
theorem z7a {m:Nat}:∀{t t':Bdy}{cs cs':List Value}{H:Heap},SizeOf.sizeOf t < m→RepB H t cs→RepB H t' cs'→H.wf →
  EvF Tryz.prog okT 55 [.agg ⟨cs⟩,.agg ⟨cs'⟩] H fun v H'=>v=.bool (eqB t t')∧HX H H':=by
 induction m with
 |zero=>intro t t' cs cs' H h;omega
 |succ m ih =>
 intro t t' cs cs' H hsz r r' hw;obtain⟨ts,a,c,cells,rfl,hk,rt,rl⟩:=r.inv;obtain⟨ts',a',c',cells',rfl,-,rt',rl'⟩:=r'.inv;obtain⟨ta,tc,cellst,rfl,-⟩:=rt.inv;obtain⟨ta',tc',cellst',rfl,-⟩:=rt'.inv;show EvF Tryz.prog okT 55 [.agg ⟨eightT t.kind t.term ta tc a t.sub.length c⟩,.agg ⟨eightT t'.kind t'.term ta' tc' a' t'.sub.length c'⟩] H _;refine EvF.enter rfl Tryz.func55 (by decide) rfl ?_;(repeat refine EvC.seq ?_);refine EvC.reg ?_;simp (disch:=first|omega|rfl) only[sB,initTm,dBox,Za,Value.cells,one,reduceCtorEq];obtain⟨H2,e2,hx2,gp,gq,hnx,hw2⟩:=new2 hw (.row (eightT t.kind t.term ta tc a t.sub.length c) 30) (.row (eightT t'.kind t'.term ta' tc' a' t'.sub.length c') 30);simp only[e2];have q1:=row8 gp;have q2:=row8 gq;clear e2;by_cases k1:t.kind=t'.kind;rotate_left
 ·repeat' (first|refine EvC.seq ?_|(refine EvC.ret ?_;try simp only[z04,z02])|(refine EvC.reg ?_;simp only[sB,Za,reduceCtorEq,z1f,ld3,z1j k1,q1,q2])|(refine EvC.condT ?_ ?_;simp only[sB,Za,reduceCtorEq];refine z07 ?_))
  exact z03 rfl (by simp only[sB,Za,reduceCtorEq];rfl) ⟨by rw[z79 (fun h=>k1 (by rw[h]))],hx2⟩
 (repeat refine EvC.seq ?_);refine EvC.reg ?_;simp only[sB,Za,reduceCtorEq,z1f,ld3,z5r,ld25,cl60,q1,q2,z0z k1];refine(zf5 (Zf _) (rt.mono hx2 hw) (rt'.mono hx2 hw) hw2).mono ?_;rintro v H3 ⟨rfl,hx3⟩;have gp3:=hx3.get hw2 gp;have gq3:=hx3.get hw2 gq;have q1:=row8 gp3;have q2:=row8 gq3;have hx:=hx2.trans hx3;by_cases k2:t.term=t'.term;rotate_left
 ·repeat' (first|refine EvC.seq ?_|(refine EvC.ret ?_;try simp only[z04,z02])|(refine EvC.reg ?_;simp only[sA])|(refine z0i ?_;simp only[sB,Za,reduceCtorEq,z3y k2,Zt])|(refine EvC.condT ?_ ?_;simp only[sB,Za,reduceCtorEq];refine z07 ?_))
  exact z03 rfl (by simp only[sB,Za,reduceCtorEq];rfl) ⟨by rw[z79 (fun h=>k2 (by rw[h]))],hx⟩
 by_cases k3:(t.sub.length:Int)=t'.sub.length;rotate_left
 ·repeat' (first|refine EvC.seq ?_|(refine EvC.ret ?_;try simp only[z04,z02])|(refine EvC.reg ?_;simp only[sA])|(refine z0i ?_;simp only[sB,Za,reduceCtorEq,z1k,ld28,ln28,z5n k2,q1,q2,z1j k3,Zp,Zd])|(refine EvC.condT ?_ ?_;simp only[sB,Za,reduceCtorEq];refine z07 ?_))
  exact z03 rfl (by simp only[sB,Za,reduceCtorEq];rfl) ⟨by rw[z79 (fun h=>k3 (by rw[h]))],hx⟩
 have hlen:t.sub.length=t'.sub.length:=by omega
 have hm:=rl.cap;have hl:=rl.len;have hmx:t.sub.length≤9223372036854775807:=Zo hl (Zo hm (by decide))
 repeat' (first|refine EvC.seq ?_|refine EvC.block ?_|(refine EvC.skip ?_;try simp only[z00])|(refine EvC.reg ?_;simp only[sB,Za,reduceCtorEq,z1k,ld28,ln28,q1])|(refine z0i ?_;simp only[sB,Za,reduceCtorEq,z1k,ld28,ln28,z5n k2,q1,q2,z0z k3,Zp,Zd])|(refine EvC.condF ?_ ?_;simp only[sB,Za,reduceCtorEq];refine z07 ?_))
 refine EvC.loop (fun k st=>∃tm H' i,st=⟨tm,[],H'⟩∧k=t.sub.length - i∧i≤t.sub.length∧(∀j,j < i→t.sub[j]?=t'.sub[j]?) ∧
   tm.get 2=some (.pointer (some ⟨H.next,0,none⟩))∧tm.get 3=some (.pointer (some ⟨H.next+1,0,none⟩))∧tm.get 30=some (.int .i64 t.sub.length)∧tm.get 31=some (.int .i64 (i:Nat)) ∧
   H'.get H.next=some (.row (eightT t.kind t.term ta tc a t.sub.length c) 30)∧H'.get (H.next+1)=some (.row (eightT t'.kind t'.term ta' tc' a' t'.sub.length c') 30)∧HX H H') ?_ t.sub.length _ ?_
 ·rintro k st ⟨tm,H',i,rfl,rfl,hi,hc,t2,t3,t30,t31,gp',gq',hx'⟩;have q1:=row8 gp';have q2:=row8 gq';by_cases hlt:i < t.sub.length
  ·have hlt':i < t'.sub.length:=by omega
   obtain⟨b,o,rfl,hld,hr1⟩:=rl.el hlt;obtain⟨b',o',rfl,hld',hr2⟩:=rl'.el hlt';obtain⟨ua,uc,va,vc,hc1⟩:=hr1.eight;obtain⟨ua',uc',va',vc',hc2⟩:=hr2.eight;rw[hc1] at hr1 hld;rw[hc2] at hr2 hld';have hld1:=hx'.load hw hld;have hld2:=hx'.load hw hld'
   repeat' (first|refine EvC.seq ?_|refine EvC.block ?_|(refine EvC.skip ?_;try simp only[z00])|(refine EvC.reg ?_;simp only[sB,Za,t30,t31,decl hlt])|(refine EvC.drw [([(0,0),(1,0),(2,0),(3,0),(4,0),(5,0),(6,0),(7,0),(8,0),(9,0)],some 10),([(11,1)],none)] ?_ ?_;kernel_rfl;simp (disch:=first|omega|rfl) only[sD,sB,Za,Zb,reduceCtorEq,z1k,ld28,ia28,ld30,cl55,t2,t3,q1,q2,hld1,hld2,isAlloc,isRead])|(refine EvC.condT ?_ ?_;simp only[sB];refine z07 ?_))
   have hb:=hx'.bump 12;have hs:=t.size _ (Zx hlt);refine(ih (t:=t.sub[i]) (t':=t'.sub[i]) (by omega) (hr1.mono hb hw) (hr2.mono hb hw) hb.wf).mono ?_;rintro v H4 ⟨rfl,hx4⟩;have hx5:=hb.trans hx4;by_cases he:t.sub[i]=t'.sub[i]
   ·repeat' (first|(refine EvC.skip ?_;try simp only[sA])|(refine EvC.reg ?_;simp (disch:=first|omega|rfl) only[sB,Za,t31,z0b])|(refine z0h ?_;simp only[sD,sB,Za,zaa he,Zp,isAlloc,isRead])|(refine EvC.condF ?_ ?_;simp only[sB,Za];refine z07 ?_))
    refine⟨t.sub.length - (i+1),by omega,_,_,i+1,rfl,rfl,by omega,fun j hj=>?_,(by simp only[sG,Za,t2]),(by simp only[sG,Za,t3]),(by simp only[sG,Za,t30]),(by simp only[sB,Za];rfl),hx4.get hb.wf gp',hx4.get hb.wf gq',hx5⟩;by_cases hji:j=i
    ·subst hji;rw[Zc hlt,Zc hlt',he]
    ·exact hc j (by omega)
   ·repeat' (first|refine EvC.seq ?_|(refine EvC.ret ?_;try simp only[z04,z02])|(refine EvC.reg ?_;simp only[sA])|(refine z0h ?_;simp only[sD,sB,Za,z79 he,Zt,isAlloc,isRead])|(refine EvC.condT ?_ ?_;simp only[sB,Za];refine z07 ?_))
    refine z03 rfl (by simp only[sB,Za];rfl) ⟨?_,hx5⟩;rw[z79];rintro rfl;exact he rfl
  ·repeat' (first|refine EvC.seq ?_|(refine EvC.exit ?_;try simp only[sB])|(refine EvC.ret ?_)|(refine EvC.reg ?_;simp only[sA,t30,t31,decn hlt])|(refine EvC.condF ?_ ?_;simp only[sB];refine z07 ?_))
   refine z03 rfl (by simp only[sB,Za];rfl) ⟨?_,hx'⟩;rw[zaa];refine zms k1 k2 (List.ext_getElem? fun j=>?_);by_cases hj:j < i
   ·exact hc j hj
   ·rw[Zy (by omega),Zy (by omega)]
 ·exact⟨_,_,0,rfl,rfl,by omega,by omega,(by simp only[sG,Za,reduceCtorEq]),(by simp only[sG,Za,reduceCtorEq]),(by simp only[sG,Za,reduceCtorEq]),(by simp only[sB,Za,reduceCtorEq];rfl),gp3,gq3,hx⟩
set_option maxHeartbeats 8000000 in
theorem z7b {m:Nat}:∀{t t':Bdy}{cs cs':List Value}{H:Heap},SizeOf.sizeOf t < m→RepB H t cs→RepB H t' cs'→H.wf →
  EvF Tryz.prog okT 51 [.agg ⟨cs⟩,.agg ⟨cs'⟩] H fun v H'=>v=.bool (eqB t t')∧HX H H':=by
 induction m with
 |zero=>intro t t' cs cs' H h;omega
 |succ m ih =>
 intro t t' cs cs' H hsz r r' hw;obtain⟨ts,a,c,cells,rfl,hk,rt,rl⟩:=r.inv;obtain⟨ts',a',c',cells',rfl,-,rt',rl'⟩:=r'.inv;obtain⟨ta,tc,cellst,rfl,-⟩:=rt.inv;obtain⟨ta',tc',cellst',rfl,-⟩:=rt'.inv;show EvF Tryz.prog okT 51 [.agg ⟨eightT t.kind t.term ta tc a t.sub.length c⟩,.agg ⟨eightT t'.kind t'.term ta' tc' a' t'.sub.length c'⟩] H _;refine EvF.enter rfl Tryz.func51 (by decide) rfl ?_;(repeat refine EvC.seq ?_);refine EvC.reg ?_;simp (disch:=first|omega|rfl) only[sB,initTm,dBox,Za,Value.cells,one,reduceCtorEq];obtain⟨H2,e2,hx2,gp,gq,hnx,hw2⟩:=new2 hw (.row (eightT t.kind t.term ta tc a t.sub.length c) 30) (.row (eightT t'.kind t'.term ta' tc' a' t'.sub.length c') 30);simp only[e2];have q1:=row8 gp;have q2:=row8 gq;clear e2;(repeat refine EvC.seq ?_);refine EvC.reg ?_;simp only[sB,Za,reduceCtorEq,z5r,ld25,cl12,q1,q2];refine(z3z (rt.mono hx2 hw) (rt'.mono hx2 hw) hw2).mono ?_;rintro v H3 ⟨rfl,hx3⟩;have gp3:=hx3.get hw2 gp;have gq3:=hx3.get hw2 gq;have q1:=row8 gp3;have q2:=row8 gq3;have hx:=hx2.trans hx3;by_cases k2:t.term=t'.term;rotate_left
 ·repeat' (first|refine EvC.seq ?_|(refine EvC.ret ?_;try simp only[z04,z02])|(refine EvC.reg ?_;simp only[sB,Za,reduceCtorEq,z3y k2,Zt])|(refine EvC.condT ?_ ?_;simp only[sB,Za,reduceCtorEq];refine z07 ?_))
  exact z03 rfl (by simp only[sB,Za,reduceCtorEq];rfl) ⟨by rw[z79 (fun h=>k2 (by rw[h]))],hx⟩
 by_cases k1:t.kind=t'.kind;rotate_left
 ·repeat' (first|refine EvC.seq ?_|(refine EvC.ret ?_;try simp only[z04,z02])|(refine EvC.reg ?_;simp only[sB,Za,reduceCtorEq,z1f,ld3,z5n k2,q1,q2,z1j k1,Zp,Zd])|(refine EvC.condT ?_ ?_;simp only[sB,Za,reduceCtorEq];refine z07 ?_))
  exact z03 rfl (by simp only[sB,Za,reduceCtorEq];rfl) ⟨by rw[z79 (fun h=>k1 (by rw[h]))],hx⟩
 by_cases k3:(t.sub.length:Int)=t'.sub.length;rotate_left
 ·repeat' (first|refine EvC.seq ?_|(refine EvC.ret ?_;try simp only[z04,z02])|(refine EvC.reg ?_;simp only[sB,Za,reduceCtorEq,z1f,ld3,z1k,ld28,ln28,z5n k2,q1,q2,z0z k1,z1j k3,Zp,Zd])|(refine EvC.condT ?_ ?_;simp only[sB,Za,reduceCtorEq];refine z07 ?_))
  exact z03 rfl (by simp only[sB,Za,reduceCtorEq];rfl) ⟨by rw[z79 (fun h=>k3 (by rw[h]))],hx⟩
 have hlen:t.sub.length=t'.sub.length:=by omega
 have hm:=rl.cap;have hl:=rl.len;have hmx:t.sub.length≤9223372036854775807:=Zo hl (Zo hm (by decide))
 repeat' (first|refine EvC.seq ?_|refine EvC.block ?_|(refine EvC.skip ?_;try simp only[z00])|(refine EvC.reg ?_;simp only[sB,Za,reduceCtorEq,z1f,ld3,z1k,ld28,ln28,z5n k2,q1,q2,z0z k1,z0z k3,Zp,Zd])|(refine EvC.condF ?_ ?_;simp only[sB,Za,reduceCtorEq];refine z07 ?_))
 refine EvC.loop (fun k st=>∃tm H' i,st=⟨tm,[],H'⟩∧k=t.sub.length - i∧i≤t.sub.length∧(∀j,j < i→t.sub[j]?=t'.sub[j]?) ∧
   tm.get 2=some (.pointer (some ⟨H.next,0,none⟩))∧tm.get 3=some (.pointer (some ⟨H.next+1,0,none⟩))∧tm.get 6=some (.int .i64 (i:Nat)) ∧
   H'.get H.next=some (.row (eightT t.kind t.term ta tc a t.sub.length c) 30)∧H'.get (H.next+1)=some (.row (eightT t'.kind t'.term ta' tc' a' t'.sub.length c') 30)∧HX H H') ?_ t.sub.length _ ?_
 ·rintro k st ⟨tm,H',i,rfl,rfl,hi,hc,t2,t3,t6,gp',gq',hx'⟩;have q1:=row8 gp';have q2:=row8 gq';by_cases hlt:i < t.sub.length
  ·have hlt':i < t'.sub.length:=by omega
   obtain⟨b,o,rfl,hld,hr1⟩:=rl.el hlt;obtain⟨b',o',rfl,hld',hr2⟩:=rl'.el hlt';obtain⟨ua,uc,va,vc,hc1⟩:=hr1.eight;obtain⟨ua',uc',va',vc',hc2⟩:=hr2.eight;rw[hc1] at hr1 hld;rw[hc2] at hr2 hld';have hld1:=hx'.load hw hld;have hld2:=hx'.load hw hld'
   repeat' (first|refine EvC.seq ?_|refine EvC.block ?_|(refine EvC.skip ?_;try simp only[z00])|(refine EvC.reg ?_;simp only[sB,Za,z1k,ld28,ln28,t2,t6,q1,decl hlt])|(refine EvC.drw [([(0,0),(1,0),(2,0),(3,0),(4,0),(5,0),(6,0),(7,0),(8,0),(9,0)],some 10),([(11,1)],none)] ?_ ?_;kernel_rfl;simp (disch:=first|omega|rfl) only[sD,sB,Za,Zb,reduceCtorEq,z1k,ld28,ia28,ld30,cl51,t2,t3,t6,q1,q2,hld1,hld2,isAlloc,isRead])|(refine EvC.condT ?_ ?_;simp only[sB,Za];refine z07 ?_))
   have hb:=hx'.bump 12;have hs:=t.size _ (Zx hlt);refine(ih (t:=t.sub[i]) (t':=t'.sub[i]) (by omega) (hr1.mono hb hw) (hr2.mono hb hw) hb.wf).mono ?_;rintro v H4 ⟨rfl,hx4⟩;have hx5:=hb.trans hx4;by_cases he:t.sub[i]=t'.sub[i]
   ·repeat' (first|refine EvC.seq ?_|(refine EvC.skip ?_;try simp only[sA])|(refine EvC.reg ?_;simp (disch:=first|omega|rfl) only[sB,Za,Zp,t6,z0b])|(refine z0h ?_;simp only[sD,sB,Za,zaa he,isAlloc,isRead])|(refine EvC.condF ?_ ?_;simp only[sB,Za];refine z07 ?_))
    refine⟨t.sub.length - (i+1),by omega,_,_,i+1,rfl,rfl,by omega,fun j hj=>?_,(by simp only[sG,Za,t2]),(by simp only[sG,Za,t3]),(by simp only[sB,Za];rfl),hx4.get hb.wf gp',hx4.get hb.wf gq',hx5⟩;by_cases hji:j=i
    ·subst hji;rw[Zc hlt,Zc hlt',he]
    ·exact hc j (by omega)
   ·repeat' (first|refine EvC.seq ?_|(refine EvC.ret ?_;try simp only[z04,z02])|(refine EvC.reg ?_;simp only[sB,Za,Zt])|(refine z0h ?_;simp only[sD,sB,Za,z79 he,isAlloc,isRead])|(refine EvC.condT ?_ ?_;simp only[sB,Za];refine z07 ?_))
    refine z03 rfl (by simp only[sB,Za];rfl) ⟨?_,hx5⟩;rw[z79];rintro rfl;exact he rfl
  ·repeat' (first|refine EvC.seq ?_|(refine EvC.exit ?_;try simp only[sB])|(refine EvC.ret ?_)|(refine EvC.reg ?_;simp only[sB,Za,z1k,ld28,ln28,t2,t6,q1,decn hlt])|(refine EvC.condF ?_ ?_;simp only[sB,Za];refine z07 ?_))
   refine z03 rfl (by simp only[sB,Za];rfl) ⟨?_,hx'⟩;rw[zaa];refine zms k1 k2 (List.ext_getElem? fun j=>?_);by_cases hj:j < i
   ·exact hc j hj
   ·rw[Zy (by omega),Zy (by omega)]
 ·exact⟨_,_,0,rfl,rfl,by omega,by omega,(by simp only[sG,Za,reduceCtorEq]),(by simp only[sG,Za,reduceCtorEq]),(by simp only[sB,Za,reduceCtorEq];rfl),gp3,gq3,hx⟩
set_option maxHeartbeats 8000000 in
theorem z57 {c d:Cls}{cs cs':List Value}{H:Heap}(r:RdC H c cs) (r':RdC H d cs') (hw:H.wf) :
  EvF Tryz.prog okT 9 [.agg ⟨cs⟩,.agg ⟨cs'⟩] H fun v H'=>v=.bool (eqC c d)∧HX H H':=by
 obtain⟨ha,hc,ta,tc,a,k,rfl,rh,rb⟩:=r;obtain⟨ha',hc',ta',tc',a',k',rfl,rh',rb'⟩:=r';refine EvF.enter rfl Tryz.func9 (by decide) rfl ?_;(repeat refine EvC.seq ?_);refine EvC.reg ?_;simp only[sB,initTm,dBox,Za,Value.cells,one,reduceCtorEq];obtain⟨H2,e2,hx2,g1,g2,hn2,hw2⟩:=new2 hw (.row (fift c.head ha hc c.body.kind c.body.term ta tc a c.body.sub.length k c.vars) 32) (.row (fift d.head ha' hc' d.body.kind d.body.term ta' tc' a' d.body.sub.length k' d.vars) 32);simp only[e2];clear e2;have q1:=z0u g1;have q2:=z0u g2;(repeat refine EvC.seq ?_);refine EvC.reg ?_;simp only[sB,Za,reduceCtorEq,z4t,ld25,cl12,q1,q2];refine(z3z (rh.mono hx2 hw) (rh'.mono hx2 hw) hw2).mono ?_;rintro v H3 ⟨rfl,hx3⟩;have g1:=hx3.get hw2 g1;have g2:=hx3.get hw2 g2;have hx:=hx2.trans hx3;have q1:=z0u g1;have q2:=z0u g2;try simp only[]
 (repeat refine EvC.seq ?_);refine EvC.reg ?_;simp only[sB,Za,reduceCtorEq,z6q,ld30,cl51,q1,q2];refine(z7b (Zf _) (rb.mono hx hw) (rb'.mono hx hw) hx.wf).mono ?_;rintro v H4 ⟨rfl,hx4⟩;have q1:=z0u (hx4.get hx.wf g1);have q2:=z0u (hx4.get hx.wf g2);have hxE:=hx.trans hx4;by_cases k1:c.head=d.head;rotate_left
 ·repeat' (first|refine EvC.seq ?_|(refine EvC.ret ?_)|(refine EvC.reg ?_;simp only[sB,Za,reduceCtorEq,z3y k1,Zd]))
  exact z03 rfl (by simp only[sB,Za,reduceCtorEq];rfl) ⟨by rw[zoo (fun h=>k1 (by rw[h]))],hxE⟩
 by_cases k2:c.body=d.body;rotate_left
 ·repeat' (first|refine EvC.seq ?_|(refine EvC.ret ?_)|(refine EvC.reg ?_;simp only[sB,Za,reduceCtorEq,z5n k1,z79 k2,Zd]))
  exact z03 rfl (by simp only[sB,Za,reduceCtorEq];rfl) ⟨by rw[zoo (fun h=>k2 (by rw[h]))],hxE⟩
 by_cases k3:c.vars=d.vars;rotate_left
 ·repeat' (first|refine EvC.seq ?_|(refine EvC.ret ?_)|(refine EvC.reg ?_;simp only[sB,Za,reduceCtorEq,zdw,ld3,q1,q2,z5n k1,zaa k2,z0m k3]))
  exact z03 rfl (by simp only[sB,Za,reduceCtorEq];rfl) ⟨by rw[zoo (fun h=>k3 (by rw[h]))],hxE⟩
 repeat' (first|refine EvC.seq ?_|(refine EvC.ret ?_)|(refine EvC.reg ?_;simp only[sB,Za,reduceCtorEq,zdw,ld3,q1,q2,z5n k1,zaa k2,z0k k3]))
 exact z03 rfl (by simp only[sB,Za,reduceCtorEq];rfl) ⟨by rw[zon (zmt k1 k2 k3)],hxE⟩
theorem zq9 {H:Heap}{b o j n m:Nat}{l:List Value}(h:H.load ⟨b,o,none⟩ m=some l) (hj:j+n≤m):H.load ⟨b,o+j,none⟩ n=some ((l.drop j).take n):=by
 have hl:=zh8 h;unfold Heap.load at h ⊢;simp only at h ⊢;cases hc:H.cells b with
 |none=>rw[hc] at h;cases h
 |some cs =>
  rw[hc] at h;simp only at h ⊢;split at h
  ·rename_i hb;cases h;have e1:(((cs.drop o).take m).drop j).take n=(cs.drop (o+j)).take n:=by
    rw[List.drop_take,List.take_take,List.drop_drop,Nat.min_eq_left (by omega)]
   rw[e1,if_pos];rw[←e1,Zr];simp only[Zl,List.length_drop] at hl ⊢;omega
  ·cases h
set_option maxHeartbeats 4000000 in
theorem zic {H:Heap}(hw:H.wf):EvF Tryz.prog okT 43 [] H fun v H'=>HX H H'∧∃out,v=.agg ⟨out⟩∧RSaid H' (Rg H.next H'.next) (.ball (atmT sInst)) out:=by
 refine EvF.enter rfl Tryz.func43 (by decide) rfl ?_;(repeat refine EvC.seq ?_);refine EvC.reg ?_;simp only[sA,initTm,dAlloc,zr39];obtain⟨H2,e2,hx2,gs,hn2,hw2⟩:=new1 hw (.row said0 39);simp only[e2];clear e2;(repeat refine EvC.seq ?_);refine EvC.reg ?_;simp only[sB,Za,reduceCtorEq,cl25,cl63];refine(zjl hw2).mono ?_;rintro v H3 ⟨rfl,hx3⟩;refine(zcs (S:=fun _=>False) (z1z (by decide)) (fun _ h=>h.elim) hx3.wf).mono ?_;rintro v H4 ⟨hx4,rfl,hr4⟩;have k24:=hx3.trans hx4;have gs:=k24.get hw2 gs;have n4:=k24.next
 repeat' (first|(refine EvC.ret ?_)|(refine z0i ?_;simp only[sB,Zb,one,st39,gs]))
 have hz:=(hx2.trans k24).pt (i:=H.next) (Zg _) gs (some (.row (saidT 0 true (atmT sInst) none 0) 39));refine z0a rfl (by simp only[sB,reduceCtorEq];rfl) (by simp only[sB,Zb,cutC,ld39]) ⟨hz,_,rfl,none,0,rfl,hr4.to fun n hn hl=>hn.elim⟩
def RStripEnd (H0 H:Heap) (R:ByteArray × Tm × Er) (v:Value) (H':Heap):Prop:=HX H H'∧∃a c sd,v=.tuple ⟨[.string R.1,.agg ⟨six R.2.1 a c⟩,.agg ⟨sd⟩]⟩∧RepT H0 R.2.1 (six R.2.1 a c)∧RSaid H' (Rg H.next H'.next) R.2.2 sd∧checkS R.2.1=0
theorem z58 {P:Program}{ok:Ok}{fn:Func}{tm:Tr Value}{H:Heap}{K:Value→Heap→Prop}{q a b:Tmp}{t t':TypeId}{ad bd:Addr}{v u y:Value}(h:fn.results.toList=[.tmp q,.cell a t,.cell b t']) (hy:tm.get q=some y) (ha:tm.get a=some (.pointer (some ad))) (hv:dLoad P t (.pointer (some ad)) H=some (.val v H))
  (hb:tm.get b=some (.pointer (some bd))) (hu:dLoad P t' (.pointer (some bd)) H=some (.val u H)) (hk:K (.tuple ⟨[y,v,u]⟩) H):Ex.leave P ok fn K .ret ⟨tm,[],H⟩:=by
 refine EvV.now (v:=.tuple ⟨[y,v,u]⟩) ?_ hk;have key:∀{t:TypeId}{ad:Addr}{v:Value},dLoad P t (.pointer (some ad)) H=some (.val v H)→dload P t ad H=some v:=fun {t ad v} hd=>by
  unfold dLoad at hd;simp only at hd;cases h1:dload P t ad H with
  |none=>rw[h1] at hd;simp at hd
  |some w=>rw[h1] at hd;simp at hd;rw[hd]
 simp [dres,h,dresL,dres1,hy,ha,hb,key hv,key hu]
set_option maxHeartbeats 8000000 in
theorem zf6 {m:ByteArray}{t:Tm}{cs:List Value}{H0 H:Heap}(r0:RepT H0 t cs) (hx0:HX H0 H) (hw0:H0.wf) (hc:checkS t=0) (hw:H.wf):EvF Tryz.prog okT 40 [.string m,.agg ⟨cs⟩] H (RStripEnd H0 H (stripS m t)):=by
 obtain⟨a,c,cells,rfl,-⟩:=r0.six;refine EvF.enter rfl Tryz.func40 (by decide) rfl ?_;(repeat refine EvC.seq ?_);refine EvC.reg ?_;simp (disch:=first|omega|rfl) only[sB,initTm,dBox,dAlloc,Value.cells,one,reduceCtorEq,zr25,zr39];obtain⟨H2,e2,hx2,g3,g5,g6,hn2,hw2⟩:=zlm hw (.row (six t a c) 25) (.row zero6 25) (.row said0 39);simp only[e2];clear e2;have g6:H2.get (H.next+1+1)=some (.row said0 39):=g6;(repeat refine EvC.seq ?_);refine EvC.join (fun st=>∃tm H' u m' a c,st=⟨tm,[],H'⟩∧(m',u,Er.ok)=stripS m t∧checkS u=0∧tm.get 0=some (.string m')∧tm.get 3=some (.pointer (some ⟨H.next,0,none⟩))∧tm.get 5=some (.pointer (some ⟨H.next+1,0,none⟩))∧tm.get 6=some (.pointer (some ⟨H.next+1+1,0,none⟩)) ∧
  H'.get H.next=some (.row (six u a c) 25)∧H'.get (H.next+1)=some (.row zero6 25)∧H'.get (H.next+1+1)=some (.row said0 39)∧RepT H0 u (six u a c)∧HX H H') ?_ ?_
 ·refine EvC.block (EvC.loop (fun k st=>∃tm H' u m' a c,st=⟨tm,[],H'⟩∧SizeOf.sizeOf u < k∧stripF k m' u=stripS m t∧checkS u=0∧tm.get 0=some (.string m')∧tm.get 3=some (.pointer (some ⟨H.next,0,none⟩))∧tm.get 5=some (.pointer (some ⟨H.next+1,0,none⟩))∧tm.get 6=some (.pointer (some ⟨H.next+1+1,0,none⟩)) ∧
   H'.get H.next=some (.row (six u a c) 25)∧H'.get (H.next+1)=some (.row zero6 25)∧H'.get (H.next+1+1)=some (.row said0 39)∧RepT H0 u (six u a c)∧HX H H') ?_ (SizeOf.sizeOf t+1) _ ?_)
  rotate_left
  ·exact⟨_,_,t,m,a,c,rfl,Zf _,rfl,hc,(by simp only[sG,reduceCtorEq]),(by simp only[sG,Za,reduceCtorEq]),(by simp only[sG,Za,reduceCtorEq]),(by simp only[sG,Za,reduceCtorEq]),g3,g5,g6,r0,hx2⟩
  rintro k st ⟨tm,H',u,m',a,c,rfl,hk,hR,hcu,t0,t3,t5,t6,g3,g5,g6,ru,hx⟩;have hw':=hx.wf;have q3:=row6 g3;(repeat refine EvC.seq ?_);refine EvC.reg ?_;simp only[sB,ld25,cl42,t3,q3];refine(z88 (s:=sCol) (ru.mono (hx0.trans hx) hw0) hw').mono ?_;rintro v H3 ⟨rfl,hx3⟩;have g3:=hx3.get hw' g3;have g5:=hx3.get hw' g5;have g6:=hx3.get hw' g6;have hx:=hx.trans hx3;have w3:=hx.wf;have n3:=hx.next;have q3:=row6 g3;have lg6:=w3 _ _ g6;obtain⟨k,rfl⟩:∃n,k=n+1:=⟨k - 1,by omega⟩
  try simp only[]
  by_cases hi:isF u sCol;rotate_left
  ·rw[stripF,if_neg hi] at hR
   repeat' (first|(refine EvC.exit ?_;try simp only[sB,decide_eq_false hi])|(refine EvC.condF ?_ ?_;simp only[sB,Za,decide_eq_false hi];refine z07 ?_))
   exact⟨_,_,u,m',a,c,rfl,hR,hcu,(by simp only[sG,reduceCtorEq,t0]),(by simp only[sG,Za,t3]),(by simp only[sG,Za,t5]),(by simp only[sG,Za,t6]),g3,g5,g6,ru,hx⟩
  rw[stripF,if_pos hi] at hR;refine EvC.condT (by simp only[sB,Za,decide_eq_true hi]) ?_;(try refine EvC.skip ?_);(try simp only[z00,z01]);obtain⟨x,y,hxy⟩:∃x y,u.args=[x,y]:=by
   match hl:u.args,hi.2.2 with
   |[x,y],_=>exact⟨x,y,rfl⟩
  have ex:u.at 0=x:=by unfold Tm.at;rw[hxy];rfl
  have ey:u.at 1=y:=by unfold Tm.at;rw[hxy];rfl
  have x0:u.args[0]'(by rw[hxy];simp)=x:=by simp [hxy]
  have y1:u.args[1]'(by rw[hxy];simp)=y:=by simp [hxy]
  obtain⟨a0,c0,cells0,hcs,-,-,-,-,-,rl⟩:=ru.six;obtain⟨-,-,-,-,-,rfl,rfl⟩:=z4h hcs;obtain⟨b,o,a1,c1,rfl,hld0,hr0⟩:=rl.el (i:=0) (by rw[hxy];simp);obtain⟨b',o',a2,c2,e2,hld1,hr1⟩:=rl.el (i:=1) (by rw[hxy];simp);cases e2;rw[x0] at hld0 hr0;rw[y1] at hld1 hr1;simp only[Zu,Nat.add_zero,ZL] at hld0 hld1;have hcx:=z0p hcu (u:=x) (by rw[hxy];simp);have hcy:=z0p hcu (u:=y) (by rw[hxy];simp);have hsy:SizeOf.sizeOf y < SizeOf.sizeOf u:=z0d (by rw[hxy];simp);rw[ex,ey] at hR;have hxl:u.args.length=2:=hi.2.2;have l0:=(hx0.trans hx).load hw0 hld0;have l1:=(hx0.trans hx).load hw0 hld1;have p0:H3.load ⟨b,o,none⟩ 1=some [.int .i64 x.kind]:=zq9 (j:=0) l0 (by decide);have p1:H3.load ⟨b,o+1,none⟩ 1=some [.string x.name]:=zq9 (j:=1) l0 (by decide);(repeat refine EvC.seq ?_);refine EvC.block ?_;by_cases k1:x.kind=1
  ·rw[if_pos k1] at hR;(repeat refine EvC.seq ?_);refine EvC.reg ?_;simp (disch:=first|omega|rfl) only[sB,Za,Zv,z0j,ld23,z0g,ld3,t3,q3,hxl,p0,iz23,Zu,z0k k1];refine EvC.condT (by simp only[sB,Za]) ?_;(try refine EvC.skip ?_);(try simp only[z00,z01]);(repeat refine EvC.seq ?_);refine EvC.drw [([],some 1),([(0,0),(2,1)],some 3),([],some 4),([],none)] (by kernel_rfl) ?_;simp only[sD,sA,Zb,cl43];have hb:=(HX.refl w3).bump 5;refine(zic hb.wf).mono ?_;rintro v H6 ⟨hx6,out,rfl,hsd⟩;obtain⟨en,eb,et,ea,ec,rfl⟩:=hsd.cells;have hx36:=hb.trans hx6;have q36:=row6 (hx36.get w3 g3);have g5:=hx36.get w3 g5;have g6:=hx36.get w3 g6;have n6:H3.next+5≤H6.next:=hx6.next
   repeat' (first|(refine EvC.ret ?_;try simp only[z04,z02])|(refine z0h ?_;simp (disch:=first|omega|rfl) only[sV,sD,sB,Za,Zb,one,reduceCtorEq,ld25,st25,st39,t3,t5,t6,q3,q36,g5,g6,neu,neu',isAlloc,isRead]))
   have hz:=((hx.trans hx36).pt (i:=H.next+1) (by omega) g5 (some (.row (six u (some ⟨b,o,none⟩) c) 25))).pt (i:=H.next+1+1) (by omega) (by rw[get_put,if_neg (by omega)];exact g6) (some (.row (saidT en eb et ea ec) 39));rw[←hR];refine z58 rfl (by simp only[sB,Za];rfl) (by simp only[sB,Za,t5];rfl) (by simp only[sB,Zb,cutC,ld25,neu]) (by simp only[sB,Za,t6];rfl) (by simp only[sB,Za,Zb,cutC,ld39]) ⟨hz,_,_,_,rfl,ru,hsd.to fun n hn hl=>?_,hcu⟩;have a1:H3.next+5≤n:=hn.1;exact⟨by rw[get_put,if_neg (by omega),get_put,if_neg (by omega)],⟨by omega,by rw[z06,z06];exact hl⟩,by rw[z06,z06];exact hl⟩
  rw[if_neg k1] at hR;(repeat refine EvC.seq ?_);refine EvC.reg ?_;simp (disch:=first|omega|rfl) only[sB,Za,Zv,z0j,ld23,z0g,ld3,t3,q3,hxl,p0,iz23,Zu,z0m k1];refine EvC.condF (by simp only[sB,Za]) ?_;(try refine EvC.skip ?_);(try simp only[z00,z01]);by_cases k2:x.kind=2;rotate_left
  ·rw[if_neg k2] at hR;(repeat refine EvC.seq ?_);refine EvC.reg ?_;simp (disch:=first|omega|rfl) only[sB,Za,Zv,z0j,ld23,z0g,ld3,t3,q3,hxl,p0,iz23,Zu,z1j k2];refine EvC.condT (by simp only[sB,Za]) ?_;(try refine EvC.skip ?_);(try simp only[z00,z01]);(repeat refine EvC.seq ?_);refine EvC.drw [([(1,0),(2,0),(3,0),(4,0)],some 5),([(0,0),(6,1)],some 7),([],some 8),([],none)] (by kernel_rfl) ?_;simp (disch:=first|omega|rfl) only[sD,sB,Za,Zb,reduceCtorEq,Zv,ld25,z0j,ld23,cl28,isAlloc,isRead,t3,q3,hxl,l0,iz23,Zu];have hb:=(HX.refl w3).bump 9;refine(z8l (s:=sAtomW) (by decide) ((hr0.mono (hx0.trans hx) hw0).mono hb w3) (few6 hcx) hb.wf).mono ?_;rintro v H6 ⟨hx6,out,rfl,hsd⟩;obtain⟨en,eb,et,ea,ec,rfl⟩:=hsd.cells;have hx36:=hb.trans hx6;have q36:=row6 (hx36.get w3 g3);have g5:=hx36.get w3 g5;have g6:=hx36.get w3 g6;have n6:H3.next+9≤H6.next:=hx6.next
   repeat' (first|(refine EvC.ret ?_;try simp only[z04,z02])|(refine z0h ?_;simp (disch:=first|omega|rfl) only[sV,sD,sB,Za,Zb,one,reduceCtorEq,ld25,st25,st39,t3,t5,t6,q3,q36,g5,g6,neu,neu',isAlloc,isRead]))
   have hz:=((hx.trans hx36).pt (i:=H.next+1) (by omega) g5 (some (.row (six u (some ⟨b,o,none⟩) c) 25))).pt (i:=H.next+1+1) (by omega) (by rw[get_put,if_neg (by omega)];exact g6) (some (.row (saidT en eb et ea ec) 39));rw[←hR];refine z58 rfl (by simp only[sB,Za];rfl) (by simp only[sB,Za,t5];rfl) (by simp only[sB,Zb,cutC,ld25,neu]) (by simp only[sB,Za,t6];rfl) (by simp only[sB,Za,Zb,cutC,ld39]) ⟨hz,_,_,_,rfl,ru,hsd.to fun n hn hl=>?_,hcu⟩;have a1:H3.next+9≤n:=hn.1;exact⟨by rw[get_put,if_neg (by omega),get_put,if_neg (by omega)],⟨by omega,by rw[z06,z06];exact hl⟩,by rw[z06,z06];exact hl⟩
  rw[if_pos k2] at hR;(repeat refine EvC.seq ?_);refine EvC.reg ?_;simp (disch:=first|omega|rfl) only[sB,Za,Zv,z0j,ld23,z0g,ld3,t3,q3,hxl,p0,iz23,Zu,z0z k2];refine EvC.condF (by simp only[sB,Za]) ?_;(try refine EvC.skip ?_);(try simp only[z00,z01]);(repeat refine EvC.seq ?_);refine EvC.reg ?_;simp (disch:=first|omega|rfl) only[sB,Za,Zv,z0j,ld23,z16,ld9,t3,q3,hxl,p1,iz23,Zu];refine EvC.reg ?_;simp (disch:=first|omega|rfl) only[sB,Za,Zb,one,reduceCtorEq,Zv,ld25,z0j,ld23,st25,t3,q3,hxl,l1,g3,iz23,ZL];have hz:=hx.pt (i:=H.next) (Zg _) g3 (some (.row (six y a2 c2) 25));exact⟨k,Zf _,_,_,y,x.name,a2,c2,rfl,by omega,hR,hcy,(by simp only[sG,reduceCtorEq]),(by simp only[sG,Za,reduceCtorEq,t3]),(by simp only[sG,Za,reduceCtorEq,t5]),(by simp only[sG,Za,reduceCtorEq,t6]),by rw[get_put,if_pos rfl],by rw[get_put,if_neg (by omega)];exact g5,by rw[get_put,if_neg (by omega)];exact g6,hr1,hz⟩
 ·rintro st ⟨tm,H',u,m',a,c,rfl,hR,hcu,t0,t3,t5,t6,g3,g5,g6,ru,hx⟩;have q3:=row6 g3;simp only[z00];have hxb:=hx.bump 6;have hz:=(hxb.pt (i:=H.next+1) (by omega) (show Heap.get ⟨H'.next+6,H'.t⟩ (H.next+1)=_ from g5) (some (.row (six u a c) 25))).pt (i:=H.next+1+1) (by omega) (by rw[get_put,if_neg (by omega)];exact g6) (some (.row said0 39));(repeat refine EvC.seq ?_);refine EvC.drw [([(0,0),(1,0),(3,0)],some 4),([(2,0)],some 5),([],none)] (by kernel_rfl) ?_;simp (disch:=first|omega|rfl) only[sV,sD,sB,Za,Zb,Value.cells,one,reduceCtorEq,layC,ld25,st25,st39,bd39,isAlloc,isRead,t0,t3,t5,t6,q3,g5,g6,neu,neu']
  repeat' (first|(refine EvC.ret ?_))
  rw[←hR];refine z58 rfl (by simp only[sG,Za]) (by simp only[sB,Za,t5];rfl) (by simp only[sB,Zb,cutC,ld25,neu]) (by simp only[sB,Za,t6];rfl) (by simp only[sB,Za,Zb,cutC,ld39]) ⟨hz,_,_,_,rfl,ru,rfl,hcu⟩
end Go.Proofs.hq
end

section
namespace Go.Hb
open Go Go.RowKit
structure RdI (H:Heap) (L:List Int) (a:Option Addr) (c:Nat):Prop where
 len:L.length≤c
 cap:c≤maxLen
 get:∀(i:Nat) (h:i < L.length),∃b o,a=some ⟨b,o,none⟩∧H.load ⟨b,o+i,none⟩ 1=some [.int .i64 L[i]]
theorem RdI.max {H:Heap}{L:List Int}{a:Option Addr}{c:Nat}(h:RdI H L a c):L.length≤9223372036854775807:=Zo h.len h.cap
end Go.Hb
namespace Go.Proofs.hq
open Go Go.RowKit Go.Hb
variable {ok:Ok}
set_option maxRecDepth 10000
attribute [local irreducible] LX LG EL STG SOP SGO SGD SAL SRD SEF SEG SLK SCK ES
theorem IntL.rd {H:Heap}{T:TypeId}{S:Nat→Prop}{L:List Int}{v:Value}(h:IntL H T S L v):∃a c,v=.slice a L.length c∧RdI H L a c∧(∀b o,a=some ⟨b,o,none⟩→S b):=by
 rcases h with ⟨rfl,rfl⟩|⟨b,c,rfl,h2,h3,h4,h5⟩
 ·exact⟨none,0,rfl,⟨Zg _,Zs _,fun i h=>by simp at h⟩,fun b o h=>by cases h⟩
 ·refine⟨_,c,rfl,⟨h2,h3,fun i hi=>⟨b,0,rfl,?_⟩⟩,fun b' o h=>by cases h;exact h5⟩;unfold Heap.load Heap.cells;simp only[h4,Nat.zero_add];have:(List.drop i (L.map fun n=>Value.int .i64 n)).take 1=[.int .i64 L[i]]:=by
   rw[ZB (by simpa using hi)];simp
  rw[this];rfl
theorem zuf {L:List Int}{n:Int}{a:Option Addr}{c:Nat}{H:Heap}(h:RdI H L a c):EvF Tryz.prog okT 87 [.slice a L.length c,.int .i64 n] H fun v H'=>v=.bool (decide (n∈L))∧H'=H:=by
 have hm:=h.max;refine EvF.enter rfl Tryz.func87 (by decide) rfl ?_
 repeat' (first|refine EvC.seq ?_|refine EvC.block ?_|(refine EvC.reg ?_;simp only[sA,initTm]))
 refine EvC.loop (fun k st=>∃tm i,st=⟨tm,[],H⟩∧k=L.length - i∧i≤L.length∧n∉L.take i∧tm.get 0=some (.slice a L.length c)∧tm.get 1=some (.int .i64 n)∧tm.get 5=some (.int .i64 (i:Nat))) ?_ L.length _ ?_
 ·rintro k st ⟨tm,i,rfl,rfl,hi,hn,t0,t1,t5⟩;by_cases hlt:i < L.length
  ·obtain⟨b,o,rfl,hl⟩:=h.get i hlt;by_cases he:L[i]=n
   ·repeat' (first|refine EvC.seq ?_|refine EvC.block ?_|(refine EvC.skip ?_;try simp only[z00])|(refine EvC.ret ?_;try simp only[z04,z02])|(refine EvC.reg ?_;simp (disch:=first|omega|rfl) only[sB,Za,reduceCtorEq,ln77,ia77,ld3,t0,t1,t5,decl hlt,hl,z0k he])|(refine EvC.condT ?_ ?_;simp only[sB,Za];refine z07 ?_))
    exact z03 rfl (by simp only[sB,Za];rfl) ⟨by rw[decide_eq_true (he ▸ Zx _)],rfl⟩
   ·repeat' (first|refine EvC.seq ?_|refine EvC.block ?_|(refine EvC.skip ?_;try simp only[sA])|(refine EvC.reg ?_;simp (disch:=first|omega|rfl) only[sB,Za,reduceCtorEq,ln77,ia77,ld3,t0,t1,t5,decl hlt,hl,z0m he,z0b])|(refine EvC.condT ?_ ?_;simp only[sB,Za];refine z07 ?_)|(refine EvC.condF ?_ ?_;simp only[sB,Za];refine z07 ?_))
    refine⟨L.length - (i+1),by omega,_,i+1,rfl,rfl,by omega,?_,(by simp only[sG,reduceCtorEq,t0]),(by simp only[sG,Za,t1]),(by simp only[sB,Za];rfl)⟩;rw[←ZA hlt,List.mem_append];rintro (h1|h1)
    ·exact hn h1
    ·simp at h1;exact he h1.symm
  ·repeat' (first|refine EvC.seq ?_|(refine EvC.exit ?_;try simp only[sB])|(refine EvC.ret ?_)|(refine EvC.reg ?_;simp only[sB,Za,reduceCtorEq,ln77,t0,t5,decn hlt])|(refine EvC.condF ?_ ?_;simp only[sB,Za];refine z07 ?_))
   rw[Zi (by omega)] at hn;exact z03 rfl (by simp only[sB,Za];rfl) ⟨by rw[decide_eq_false hn],rfl⟩
 ·exact⟨_,0,rfl,rfl,by omega,by simp,(by simp only[sG,reduceCtorEq]),(by simp only[sG,Za,reduceCtorEq]),(by simp only[sB,Za,reduceCtorEq];rfl)⟩
set_option maxHeartbeats 4000000 in
theorem zop {H0:Heap}(hw0:H0.wf) {tot:List Int}(hlen:tot.length≤most):∀(m:Nat) {t:Tm}{cs:List Value}{H:Heap}{S:Nat→Prop}{pre:List Int}{v:Value},SizeOf.sizeOf t < m→RepT H0 t cs→HX H0 H→IntL H 3 S (uniq pre) v→(∀n,S n→H0.next≤n∧n < H.next)→(pre++occ t) <+: tot →
  EvF Tryz.prog okT 75 [.agg ⟨cs⟩,v] H fun v' H'=>∃S',IntL H' 3 S' (uniq (pre++occ t)) v'∧HK S H H'∧HX H0 H'∧(∀n,S' n→(S n∨H.next≤n)∧n < H'.next):=by
 have ean:apOk Tryz.prog 77 3 1:=ap77;intro m
 induction m with
 |zero=>intro t cs H S pre v h;omega
 |succ m ih =>
 intro t cs H S pre v hsz r hx hi hS htot;have hw:=hx.wf;have hxn:=hx.next;obtain⟨a,c,cells,rfl,-,-,-,-,-,rl⟩:=r.six;have hm:=rl.max;obtain⟨av,cv,rfl,hrd,-⟩:=hi.rd;refine EvF.enter rfl Tryz.func75 (by decide) rfl ?_;(repeat refine EvC.seq ?_);refine EvC.reg ?_;simp (disch:=first|omega|rfl) only[sB,initTm,dBox,Value.cells,one,reduceCtorEq];obtain⟨H2,e2,hx2,gp,hn2,hw2⟩:=new1 hw (.row (six t a c) 25);simp only[e2];clear e2;have q1:=row6 gp;have hi2:IntL H2 3 S (uniq pre) (.slice av (uniq pre).length cv):=hi.heap (fun n _ hl=>hx2.keep n hl) hw;(repeat refine EvC.seq ?_);refine EvC.reg ?_;simp only[sB,Za,reduceCtorEq,z0g,ld3,q1];refine EvC.join (fun st=>∃tm H' S' w,st=⟨tm,[],H'⟩∧tm.get 1=some w∧tm.get 2=some (.pointer (some ⟨H.next,0,none⟩))∧H'.get H.next=some (.row (six t a c) 25) ∧
   IntL H' 3 S' (uniq (pre++(if t.kind=1 then [t.var] else []))) w∧HK S H H'∧HX H0 H'∧(∀n,S' n→(S n∨H.next < n)∧n < H'.next)) ?_ ?_
 ·by_cases k1:t.kind=1;rotate_left
  ·repeat' (first|(refine EvC.skip ?_;try simp only[z00,z0m k1])|(refine EvC.condF ?_ ?_;simp only[sB,Za,reduceCtorEq,z0m k1];refine z07 ?_))
   exact⟨_,_,S,_,rfl,(by simp only[sB,Za,reduceCtorEq];rfl),(by simp only[sG,Za,reduceCtorEq]),gp,by rw[if_neg k1,List.append_nil];exact hi2,hx2.hk S,hx.trans hx2,fun n hn=>⟨.inl hn,by have:=hS n hn;omega⟩⟩
  obtain⟨av',cv',e',hrd2,-⟩:=hi2.rd;cases e'
  repeat' (first|refine EvC.seq ?_|(refine EvC.reg ?_;simp only[sB,Za,reduceCtorEq,ld3,z4m,cl87,z0k k1,q1])|(refine EvC.condT ?_ ?_;simp only[sB,Za,reduceCtorEq,z0k k1];refine z07 ?_))
  refine(zuf hrd2).mono ?_;rintro v H3 ⟨rfl,rfl⟩;by_cases hmem:t.var∈uniq pre
  ·repeat' (first|refine EvC.seq ?_|(refine EvC.skip ?_;try simp only[z00])|(refine EvC.reg ?_;simp only[sB,Za,reduceCtorEq,decide_eq_true hmem,Zp])|(refine EvC.condF ?_ ?_;simp only[sB,Za,reduceCtorEq];refine z07 ?_))
   exact⟨_,_,S,_,rfl,(by simp only[sB,Za,reduceCtorEq];rfl),(by simp only[sG,Za,reduceCtorEq]),gp,by rw[if_pos k1,z40,addU,if_pos hmem];exact hi2,hx2.hk S,hx.trans hx2,fun n hn=>⟨.inl hn,by have:=hS n hn;omega⟩⟩
  ·repeat' (first|refine EvC.seq ?_|(refine EvC.reg ?_;simp (disch:=first|omega|rfl) only[sB,Za,Value.cells,one,reduceCtorEq,layC,ld3,z4m,zku,decide_eq_false hmem,Zt,q1])|(refine EvC.condT ?_ ?_;simp only[sB,Za,reduceCtorEq];refine z07 ?_))
   obtain⟨H5,e5,hx5,g5,hn5,hw5⟩:=new1 hw2 (.row [.int .i64 t.var] 3);simp only[e5];have l5:H5.load ⟨H3.next,0,none⟩ (1*1)=some [.int .i64 t.var]:=by unfold Heap.load Heap.cells;simp only[g5];rfl
   have hul:=z5h pre;have hpl:pre.length+1≤tot.length:=by
    have:=htot.length_le;rw[z2d,if_pos k1,Zw,Zw,List.length_singleton] at this;omega
   obtain⟨H7,v7,e7,hi7,hk7,hn7⟩:=IntL.push (S2:=fun n=>n=H5.next) (c1:=1) ean (hi2.heap (fun n _ hl=>hx5.keep n hl) hw2) hw5 l5 (by omega) rfl
   repeat' (first|(refine z0i ?_;simp only[sB,Za,reduceCtorEq,e7]))
   refine⟨_,_,fun n=>n=H5.next,v7,rfl,(by simp only[sG,Za,reduceCtorEq]),(by simp only[sG,Za,reduceCtorEq]),hk7.get hw5 (hx5.get hw2 gp) (fun h=>by have:=hS _ h;omega),by rw[if_pos k1,z40,addU,if_neg hmem];exact hi7,(hx2.hk S).trans ((hx5.hk S).trans hk7),((hx.trans hx2).trans hx5).then hk7 (fun n hn hs=>by have:=hS n hs;omega),fun n hn=>?_⟩;have hn':n=H5.next:=hn;exact⟨.inr (by omega),by omega⟩
 rintro st ⟨tm,H3,S3,w,rfl,t1,t2,gp3,hi3,hk3,hx3,hS3⟩
 repeat' (first|refine EvC.seq ?_|refine EvC.block ?_|(refine EvC.reg ?_;simp only[sA]))
 refine EvC.loop (fun k st=>∃tm H' i S' w,st=⟨tm,[],H'⟩∧k=t.args.length - i∧i≤t.args.length∧tm.get 1=some w∧tm.get 2=some (.pointer (some ⟨H.next,0,none⟩))∧tm.get 6=some (.int .i64 (i:Nat))∧H'.get H.next=some (.row (six t a c) 25) ∧
   IntL H' 3 S' (uniq (pre++(if t.kind=1 then [t.var] else [])++occL (t.args.take i))) w∧HK S H H'∧HX H0 H'∧(∀n,S' n→(S n∨H.next < n)∧n < H'.next)) ?_ t.args.length _ ?_
 ·rintro k st ⟨tm,H',i,S',w,rfl,rfl,hi',t1,t2,t6,gp',hil,hk',hx',hS'⟩;have q1:=row6 gp';have nn':=hk'.next;by_cases hlt:i < t.args.length
  ·obtain⟨b,o,a1,c1,rfl,hld,hr1⟩:=rl.el hlt;have hld1:=hx'.load hw0 hld
   repeat' (first|refine EvC.seq ?_|refine EvC.block ?_|(refine EvC.skip ?_;try simp only[z00])|(refine EvC.reg ?_;simp (disch:=first|omega|rfl) only[sB,Za,z0j,ld23,ln23,ia23,ld25,cl75,t1,t2,t6,q1,decl hlt,hld1])|(refine EvC.condT ?_ ?_;simp only[sB,Za];refine z07 ?_))
   have hs:=z15 (Zc hlt);refine(ih (by omega) hr1 hx' hil (fun n hn=>by have:=hS' n hn;rcases this.1 with h|h;exact⟨(hS n h).1,this.2⟩;exact⟨by omega,this.2⟩) (by refine List.IsPrefix.trans ?_ htot;rw[List.append_assoc,←z32 hlt,List.append_assoc,z2d];exact(List.prefix_append_right_inj _).2 ((List.prefix_append_right_inj _).2 (z6z _ _)))).mono ?_;rintro v H5 ⟨S5,hi5,hk5,hx5,hS5⟩
   repeat' (first|(refine EvC.reg ?_;simp (disch:=first|omega|rfl) only[sB,Za,t6,z0b]))
   refine⟨t.args.length - (i+1),by omega,_,_,i+1,S5,v,rfl,rfl,by omega,(by simp only[sG,Za]),(by simp only[sG,Za,t2]),(by simp only[sB,Za];rfl),hk5.get hx'.wf gp' (fun h=>by rcases (hS' _ h).1 with h|h;have:=hS _ h;omega;omega),?_,hk'.step hk5 (fun n hn hq=>by rcases (hS' n hq).1 with h|h;exact h;omega),hx5,fun n hn=>?_⟩
   ·rw[z32 hlt,←List.append_assoc];exact hi5
   ·have:=hS5 n hn;refine⟨?_,this.2⟩;rcases this.1 with h|h
    ·exact(hS' n h).1
    ·exact .inr (by have:=hx'.wf _ _ gp';omega)
  ·repeat' (first|refine EvC.seq ?_|(refine EvC.exit ?_;try simp only[sB])|(refine EvC.ret ?_)|(refine EvC.reg ?_;simp only[sB,Za,z0j,ld23,ln23,t1,t2,t6,q1,decn hlt])|(refine EvC.condF ?_ ?_;simp only[sB,Za];refine z07 ?_))
   rw[Zi (by omega),List.append_assoc,←z2d] at hil;exact z03 rfl (by simp only[sG,Za]) ⟨S',hil,hk',hx',fun n hn=>by have:=hS' n hn;exact⟨by rcases this.1 with h|h;exact .inl h;exact .inr (by omega),this.2⟩⟩
 ·exact⟨_,_,0,S3,w,rfl,rfl,by omega,(by simp only[sG,Za,t1]),(by simp only[sG,Za,t2]),(by simp only[sB];rfl),gp3,by rw[List.take_zero,occL,List.append_nil];exact hi3,hk3,hx3,hS3⟩
set_option maxHeartbeats 4000000 in
theorem zbe {l:List Tm}{a:Option Addr}{c:Nat}{cells:Nat→List Value}{H:Heap}(rl:RepL H l a c cells) (hlen:(occL l).length≤most) (hw:H.wf) :
  EvF Tryz.prog okT 50 [.slice a l.length c] H fun v H'=>IntL H' 3 (Rg H.next H'.next) (uniq (occL l)) v∧HX H H':=by
 have hm:=rl.max;refine EvF.enter rfl Tryz.func50 (by decide) rfl ?_
 repeat' (first|refine EvC.seq ?_|refine EvC.block ?_|(refine EvC.reg ?_;simp only[sA,initTm]))
 refine EvC.loop (fun k st=>∃tm H' i S v,st=⟨tm,[],H'⟩∧k=l.length - i∧i≤l.length∧tm.get 0=some (.slice a l.length c)∧tm.get 3=some v∧tm.get 4=some (.int .i64 (i:Nat)) ∧
   IntL H' 3 S (uniq (occL (l.take i))) v∧HX H H'∧(∀n,S n→H.next≤n∧n < H'.next)) ?_ l.length _ ?_
 ·rintro k st ⟨tm,H',i,S,v,rfl,rfl,hi,t0,t3,t4,hil,hx',hS⟩;by_cases hlt:i < l.length
  ·obtain⟨b,o,a1,c1,rfl,hld,hr1⟩:=rl.el hlt;have hld1:=hx'.load hw hld
   repeat' (first|refine EvC.seq ?_|refine EvC.block ?_|(refine EvC.skip ?_;try simp only[z00])|(refine EvC.reg ?_;simp (disch:=first|omega|rfl) only[sB,Za,reduceCtorEq,ln23,ia23,ld25,cl75,t0,t3,t4,decl hlt,hld1])|(refine EvC.condT ?_ ?_;simp only[sB,Za];refine z07 ?_))
   refine(zop hw hlen _ (Zf _) hr1 hx' hil hS (by rw[←z32 hlt];exact z6z _ _)).mono ?_;rintro v H5 ⟨S5,hi5,hk5,hx5,hS5⟩
   repeat' (first|(refine EvC.reg ?_;simp (disch:=first|omega|rfl) only[sB,Za,t4,z0b]))
   exact⟨l.length - (i+1),by omega,_,_,i+1,S5,v,rfl,rfl,by omega,(by simp only[sG,reduceCtorEq,t0]),(by simp only[sG,Za]),(by simp only[sB,Za];rfl),by rw[z32 hlt];exact hi5,hx5,fun n hn=>by have:=hS5 n hn;refine⟨?_,this.2⟩;rcases this.1 with h|h;exact(hS n h).1;have:=hx'.next;omega⟩
  ·repeat' (first|refine EvC.seq ?_|(refine EvC.exit ?_;try simp only[sB])|(refine EvC.ret ?_)|(refine EvC.reg ?_;simp only[sB,Za,reduceCtorEq,ln23,t0,t3,t4,decn hlt])|(refine EvC.condF ?_ ?_;simp only[sB,Za];refine z07 ?_))
   rw[Zi (by omega)] at hil;refine z03 rfl (by simp only[sB,Za];rfl) ⟨?_,hx'⟩;rcases hil with h|⟨b,c',h1,h2,h3,h4,h5⟩
   ·exact .inl h
   ·exact .inr ⟨b,c',h1,h2,h3,h4,hS b h5⟩
 ·exact⟨_,_,0,fun _=>False,_,rfl,rfl,by omega,(by simp only[sG,reduceCtorEq]),(by simp only[sB,Za,reduceCtorEq];rfl),(by simp only[sB,Za,reduceCtorEq];rfl),by rw[List.take_zero,occL];exact .inl ⟨rfl,rfl⟩,HX.refl hw,fun n h=>h.elim⟩
end Go.Proofs.hq
end

section
namespace Go.Hb
open Go Go.RowKit
structure RepBs (H:Heap) (B:List (Int × Tm)) (a:Option Addr) (c:Nat):Prop where
 len:B.length≤c
 cap:c≤maxLen
 el:∀(i:Nat) (h:i < B.length),∃b o a' c',a=some ⟨b,o,none⟩∧H.load ⟨b,o+i*7,none⟩ 1=some [.int .i64 B[i].1]∧H.load ⟨b,o+i*7+1,none⟩ 6=some (six B[i].2 a' c')∧RepT H B[i].2 (six B[i].2 a' c')
theorem RepBs.max {H:Heap}{B:List (Int × Tm)}{a:Option Addr}{c:Nat}(h:RepBs H B a c):B.length≤9223372036854775807:=Zo h.len h.cap
theorem RepBs.mono {H H':Heap}{B:List (Int × Tm)}{a:Option Addr}{c:Nat}(h:RepBs H B a c) (hx:HX H H') (hw:H.wf):RepBs H' B a c :=
 ⟨h.len,h.cap,fun i hi=>let ⟨b,o,a',c',e,l1,l2,r⟩:=h.el i hi;⟨b,o,a',c',e,hx.load hw l1,hx.load hw l2,r.mono hx hw⟩⟩
end Go.Hb
namespace Go.Proofs.hq
open Go Go.RowKit Go.Hb
variable {ok:Ok}
set_option maxRecDepth 10000
attribute [local irreducible] LX LG EL STG SOP SGO SGD SAL SRD SEF SEG SLK SCK ES
theorem V_ev {i:Int}{H:Heap}(hw:H.wf):EvF Tryz.prog okT 22 [.int .i64 i] H fun v H'=>v=.agg ⟨[.int .i64 1,.string Ze,.string Ze,.int .u64 0,.int .i64 i,.slice none 0 0]⟩∧HX H H':=by
 refine EvF.enter rfl Tryz.func22 (by decide) rfl ?_
 repeat' (first|refine EvC.seq ?_|(refine EvC.ret ?_)|(refine EvC.reg ?_;simp only[sB,initTm,dAlloc,Za,Zb,Value.cells,one,reduceCtorEq,Zk,layC,zr25,bd25,st25]))
 exact z0a rfl (by simp only[sB,Za,reduceCtorEq];rfl) (by simp only[sB,Zb,cutC,ld25]) ⟨rfl,((HX.refl hw).new _).put (Zg _) (Zf _) _⟩
set_option maxHeartbeats 2000000 in
theorem zoq {B:List (Int × Tm)}{n:Int}{a:Option Addr}{c:Nat}{H:Heap}(h:RepBs H B a c) (hw:H.wf) :
  EvF Tryz.prog okT 86 [.slice a B.length c,.int .i64 n] H fun v H'=>HX H H'∧match B.find? (fun p=>p.1 == n) with
   |some p=>∃cs,v=.tuple #[.agg ⟨cs⟩,.bool true]∧RepT H' p.2 cs
   |none=>v=.tuple #[.agg ⟨zero6⟩,.bool false]:=by
 have hm:=h.max;refine EvF.enter rfl Tryz.func86 (by decide) rfl ?_;(repeat refine EvC.seq ?_);refine EvC.reg ?_;simp only[sA,initTm,dAlloc,zr25];obtain⟨H2,e2,hx2,gq,hn2,hw2⟩:=new1 hw (.row zero6 25);simp only[e2]
 repeat' (first|refine EvC.seq ?_|refine EvC.block ?_|(refine EvC.reg ?_;simp only[sA]))
 refine EvC.loop (fun k st=>∃tm i,st=⟨tm,[],H2⟩∧k=B.length - i∧i≤B.length∧(∀p∈B.take i,p.1≠n)∧tm.get 0=some (.slice a B.length c)∧tm.get 1=some (.int .i64 n)∧tm.get 4=some (.pointer (some ⟨H.next,0,none⟩))∧tm.get 6=some (.int .i64 (i:Nat))) ?_ B.length _ ?_
 ·rintro k st ⟨tm,i,rfl,rfl,hi,hn,t0,t1,t4,t6⟩;by_cases hlt:i < B.length
  ·obtain⟨b,o,a',c',rfl,l1,l2,r⟩:=h.el i hlt;have l1:=hx2.load hw l1;have l2:=hx2.load hw l2;by_cases he:B[i].1=n
   ·repeat' (first|refine EvC.seq ?_|refine EvC.block ?_|(refine EvC.skip ?_;try simp only[z00])|(refine EvC.ret ?_;try simp only[z04,z02])|(refine EvC.reg ?_;simp (disch:=first|omega|rfl) only[sB,Za,Zb,one,reduceCtorEq,zno,zqr,z63,ld3,zfv,ld25,st25,t0,t1,t4,t6,decl hlt,l1,l2,z0k he,gq])|(refine EvC.condT ?_ ?_;simp only[sB,Za];refine z07 ?_))
    have hx3:=hx2.pt (Zg _) gq (some (.row (six B[i].2 a' c') 25));have hfind:B.find? (fun p=>p.1 == n)=some B[i]:=by
     rw[List.find?_eq_some_iff_getElem];refine⟨by simp [he],i,hlt,rfl,fun j hj=>?_⟩;have:=hn B[j] (by rw[List.mem_take_iff_getElem];exact⟨j,by omega,rfl⟩);simp [this]
    refine z09 rfl (by simp only[sB,Za,t4];rfl) (by simp only[sB,Zb,cutC,ld25];rfl) (by simp only[sB,Za];rfl) ⟨hx3,?_⟩;rw[hfind];exact⟨_,rfl,r.mono hx3 hw⟩
   ·repeat' (first|refine EvC.seq ?_|refine EvC.block ?_|(refine EvC.skip ?_;try simp only[sA])|(refine EvC.reg ?_;simp (disch:=first|omega|rfl) only[sB,Za,reduceCtorEq,zno,zqr,z63,ld3,t0,t1,t6,decl hlt,l1,z0m he,z0b])|(refine EvC.condT ?_ ?_;simp only[sB,Za];refine z07 ?_)|(refine EvC.condF ?_ ?_;simp only[sB,Za];refine z07 ?_))
    refine⟨B.length - (i+1),by omega,_,i+1,rfl,rfl,by omega,fun p hp=>?_,(by simp only[sG,reduceCtorEq,t0]),(by simp only[sG,Za,t1]),(by simp only[sG,Za,t4]),(by simp only[sB,Za];rfl)⟩;rw[←ZA hlt,List.mem_append] at hp;rcases hp with hp|hp
    ·exact hn p hp
    ·simp at hp;rw[hp];exact he
  ·repeat' (first|refine EvC.seq ?_|(refine EvC.exit ?_;try simp only[sB])|(refine EvC.ret ?_)|(refine EvC.reg ?_;simp (disch:=first|omega|rfl) only[sB,Za,Zb,Value.cells,one,reduceCtorEq,layC,zno,st25,bd25,t0,t4,t6,decn hlt,gq])|(refine EvC.condF ?_ ?_;simp only[sB,Za];refine z07 ?_))
   rw[Zi (by omega)] at hn;have hfind:B.find? (fun p=>p.1 == n)=none:=by rw[List.find?_eq_none];intro p hp;simp [hn p hp]
   refine z09 rfl (by simp only[sB,Za,t4];rfl) (by simp only[sB,Zb,cutC,ld25];rfl) (by simp only[sB,Za];rfl) ⟨hx2.pt (Zg _) gq _,?_⟩;rw[hfind]
 ·exact⟨_,0,rfl,rfl,by omega,fun p hp=>by simp at hp,(by simp only[sG,reduceCtorEq]),(by simp only[sG,Za,reduceCtorEq]),(by simp only[sG,Za,reduceCtorEq]),(by simp only[sB,Za,reduceCtorEq];rfl)⟩
end Go.Proofs.hq
end

section
namespace Go.Hb
open Go Go.RowKit
end Go.Hb
namespace Go.Proofs.hq
open Go Go.RowKit Go.Hb
variable {ok:Ok}
set_option maxRecDepth 10000
attribute [local irreducible] LX LG EL STG SOP SGO SGD SAL SRD SEF SEG SLK SCK ES
set_option maxHeartbeats 4000000 in
theorem zs0 {B:List (Int × Tm)}{σ:Int→Tm}{ab:Option Addr}{cb:Nat}(hσ:∀n,Few 1000000 (σ n)) {m:Nat}:∀{t:Tm}{cs:List Value}{H:Heap},SizeOf.sizeOf t < m→RepT H t cs→Few 1000000 t→RepBs H B ab cb→(∀n∈occ t,∃p,B.find? (fun p=>p.1 == n)=some p∧p.2=σ n)→H.wf →
  EvF Tryz.prog okT 74 [.agg ⟨cs⟩,.slice ab B.length cb] H fun v H'=>∃cs',v=.agg ⟨cs'⟩∧RepF H' 25 (Rg H.next H'.next) (sub σ t) cs'∧HX H H':=by
 induction m with
 |zero=>intro t cs H h;omega
 |succ m ih =>
 intro t cs H hsz r hf hB hocc hw;have hbd:=r.bd;have hfew:=hf.len;obtain⟨a,c,cells,rfl,-,-,-,-,-,rl⟩:=r.six;refine EvF.enter rfl Tryz.func74 (by decide) rfl ?_;(repeat refine EvC.seq ?_);refine EvC.reg ?_;simp (disch:=first|omega|rfl) only[sB,initTm,dBox,dAlloc,Value.cells,one,reduceCtorEq,zr25];obtain⟨H2,e2,hx2,gp,gq,hn2,hw2⟩:=new2 hw (.row (six t a c) 25) (.row zero6 25);simp only[e2];have q1:=row6 gp;clear e2;(repeat refine EvC.seq ?_);refine EvC.reg ?_;simp only[sB,Za,reduceCtorEq,z0g,ld3,q1];by_cases k1:t.kind=1
 ·have hv:t.var∈occ t:=by rw[z2d,if_pos k1];simp
  obtain⟨p,hp1,hp2⟩:=hocc _ hv
  repeat' (first|refine EvC.seq ?_|(refine EvC.reg ?_;simp only[sB,Za,reduceCtorEq,ld3,z4m,cl86,q1,z0k k1])|(refine EvC.condT ?_ ?_;simp only[sB,Za,reduceCtorEq,z0k k1];refine z07 ?_))
  refine(zoq (hB.mono hx2 hw) hw2).mono ?_;rintro v H3 ⟨hx3,hv3⟩;rw[hp1] at hv3;obtain⟨cs3,rfl,r3⟩:=hv3;rw[hp2] at r3;obtain⟨a3,c3,z9f,rfl,-⟩:=r3.six;have gq3:=hx3.get hw2 gq
  repeat' (first|refine EvC.seq ?_|(refine EvC.reg ?_;simp only[sB,Za,Zb,reduceCtorEq,cutC,ld25,cl6])|(refine z0i ?_;simp (disch:=first|omega|rfl) only[sB,dAlloc,Za,Zb,one,reduceCtorEq,zr25,st25])|(refine EvC.condT ?_ ?_;simp only[sB,Za,reduceCtorEq];refine z07 ?_))
  obtain⟨H4,e4,hx4,g4,hn4,hw4⟩:=z0l hx3.wf (.row zero6 25) (.row (six (σ t.var) a3 c3) 25);simp only[e4];have hx34:=hx3.trans hx4;refine(zll (Zf _) (r3.mono hx4 hx3.wf) (hσ _) hw4).mono ?_;rintro v H5 ⟨c5,rfl,⟨a5,k5,rfl,hb5,hf5⟩,hx5⟩;have gq5:=hx5.get hw4 (hx4.get hx3.wf gq3);have hx25:=hx34.trans hx5;have n24:=hx34.next;have n25:=hx25.next
  repeat' (first|(refine EvC.ret ?_;try simp only[z04,z02])|(refine z0i ?_;simp (disch:=first|omega|rfl) only[sB,Zb,one,st25,gq5]))
  refine z0a rfl (by simp only[sB,Za,reduceCtorEq];rfl) (by simp only[sB,Zb,cutC,ld25];rfl) ⟨_,rfl,⟨a5,k5,by rw[z4z k1],by rw[z4z k1];exact hb5,?_⟩,(hx2.trans hx25).pt (by omega) gq5 _⟩;rw[z4z k1];refine(hf5.heap (fun n hn _=>?_) hx5.wf).sub fun n hn=>⟨by have:=hn.1;omega,hn.2⟩
  have:=hn.1;rw[get_put,if_neg (by omega)]
 have hsub:=zhu (σ:=σ) k1;have hsa:(sub σ t).args=t.args.map (sub σ):=by rw[hsub];rfl
 have hbd':Bd (sub σ t):=by rw[hsub];exact⟨hbd.kind,hbd.name,hbd.num,hbd.bits,hbd.var⟩
 have hsix:∀a c,six (sub σ t) a c=[.int .i64 t.kind,.string t.name,.string t.num,.int .u64 t.bits,.int .i64 t.var,.slice a t.args.length c]:=fun a c=>by rw[hsub];simp [six,Tm.kind,Tm.name,Tm.num,Tm.bits,Tm.var,Tm.args]
 refine EvC.condF (by simp only[sB,Za,reduceCtorEq,z0m k1]) ?_;(try refine EvC.skip ?_);(try simp only[z00,z01]);(repeat refine EvC.seq ?_);refine EvC.reg ?_;simp (disch:=first|omega|rfl) only[sB,dAlloc,Za,Zb,one,reduceCtorEq,zr25,st25,ld25,q1];obtain⟨H3,e3,hx3,gr,hn3,hw3⟩:=z0l hw2 (.row zero6 25) (.row (six t a c) 25);simp only[e3];clear e3;rw[hn2] at gr hn3;simp only[hn2];(repeat refine EvC.seq ?_);refine EvC.reg ?_;simp (disch:=first|omega|rfl) only[sB,Za,Zb,one,reduceCtorEq,z0j,st23,gr];have hx23:=hx2.trans hx3;have gp3:=hx3.get hw2 gp;have gq3:=hx3.get hw2 gq;have hmax:=rl.max;(repeat refine EvC.seq ?_);refine EvC.reg ?_;simp only[sA];refine EvC.meet (fun st=>∃tm H' ar cr,st=⟨tm,[],H'⟩∧tm.get 4=some (.pointer (some ⟨H.next+1,0,none⟩))∧tm.get 7=some (.pointer (some ⟨H.next+2,0,none⟩)) ∧
   H'.get (H.next+1)=some (.row zero6 25)∧H'.get (H.next+2)=some (.row (six (sub σ t) ar cr) 25)∧FL H' 25 (Rg (H.next+3) H'.next) (sub σ t).args ar cr∧HX H H') ?_ ?_
 ·refine EvC.block (EvC.loop (fun k st=>∃tm H' i ar cr,st=⟨tm,[],H'⟩∧k=t.args.length - i∧i≤t.args.length∧tm.get 1=some (.slice ab B.length cb) ∧
   tm.get 2=some (.pointer (some ⟨H.next,0,none⟩))∧tm.get 4=some (.pointer (some ⟨H.next+1,0,none⟩))∧tm.get 7=some (.pointer (some ⟨H.next+2,0,none⟩))∧tm.get 8=some (.int .i64 (i:Nat)) ∧
   H'.get H.next=some (.row (six t a c) 25)∧H'.get (H.next+1)=some (.row zero6 25) ∧
   H'.get (H.next+2)=some (.row [.int .i64 t.kind,.string t.name,.string t.num,.int .u64 t.bits,.int .i64 t.var,.slice ar i cr] 25) ∧
   FL H' 25 (Rg (H.next+3) H'.next) ((t.args.take i).map (sub σ)) ar cr∧HX H H') ?_ t.args.length _ ?_)
  ·rintro k st ⟨tm,H',i,ar,cr,rfl,rfl,hi,t0,t1,t2,t3,t4,gp',gq',gr',hfl,hx'⟩;have q1:=row6 gp';by_cases hlt:i < t.args.length
   ·obtain⟨b,o,a1,c1,rfl,hld,hr1⟩:=rl.el hlt;have hld1:=hx'.load hw hld
    repeat' (first|refine EvC.seq ?_|refine EvC.block ?_|(refine EvC.skip ?_;try simp only[z00])|(refine EvC.reg ?_;simp only[sB,Za,z0j,ld23,ln23,t1,t4,q1,decl hlt])|(refine EvC.drw [([(2,0),(3,0),(4,0),(5,0),(6,0),(7,0)],some 8),([(0,0),(1,0),(9,1)],some 10),([(11,2)],some 12),([],none)] ?_ ?_;kernel_rfl;simp (disch:=first|omega|rfl) only[sD,sB,Za,Zb,reduceCtorEq,ld25,z0j,ld23,ia23,cl74,t0,t1,t4,q1,hld1,isAlloc,isRead])|(refine EvC.condT ?_ ?_;simp only[sB,Za];refine z07 ?_))
    have hb:=hx'.bump 13;have hs:=z15 (Zc hlt);refine(ih (t:=t.args[i]) (by omega) (hr1.mono hb hw) (hf.args _ (Zx _)) (hB.mono hb hw) (fun n hn=>hocc n (by rw[z2d];exact List.mem_append.2 (.inr ((z6z t.args (i+1)).subset (by rw[z32 hlt];exact List.mem_append.2 (.inr hn)))))) hb.wf).mono ?_;rintro v H5 ⟨cs',rfl,⟨a2,c2,rfl,hb2,hf2⟩,hx5⟩;have hb5:=((HX.refl hx'.wf).bump 13).trans hx5;have gp5:=hb5.get hx'.wf gp';have gq5:=hb5.get hx'.wf gq';have gr5:=hb5.get hx'.wf gr';have q3:=row6 gr5;have q3':=row6 gr';have ean:apOk Tryz.prog 23 25 6:=ap23;have hn5:=hx5.next;have hn5':H'.next+13≤H5.next:=hn5;have hltr:=hx'.wf _ _ gr';have hx6:HX H' (H5.put (H'.next+9) (some (.row (six (sub σ t.args[i]) a2 c2) 25))):=hb5.put (i:=H'.next+9) (Nat.le_add_right _ _) (by omega) _;obtain⟨H6,e6⟩:∃H6,H5.put (H'.next+9) (some (.row (six (sub σ t.args[i]) a2 c2) 25))=H6:=⟨_,rfl⟩
    have g6:H6.get (H'.next+9)=some (.row (six (sub σ t.args[i]) a2 c2) 25):=by rw[←e6,get_put,if_pos rfl]
    have hn6:H6.next=H5.next:=by rw[←e6,z06]
    have hf6:FL H6 25 (Rg (H'.next+13) H5.next) (sub σ t.args[i]).args a2 c2:=hf2.heap (fun n hn _=>by have:H'.next+13≤n:=hn.1;rw[←e6,get_put,if_neg (by omega)]) hx5.wf;rw[e6] at hx6;have etl:((t.args.take i).map (sub σ)).length=i:=by rw[Zq,Zl];omega
    obtain⟨H7,e7,hf7,hk7,hn7⟩:=FL.push (S2:=Rg (H.next+3) (H6.next+1)) (c1:=1) ean (hfl.keep hx6 hx'.wf) hx6.wf (row6 g6).2.2.2.2.2.2 hf6 hb2 (fun n hn hs=>by have:H'.next+13≤n:=hn.1;have:=hs.2;omega) (fun n hn=>by have:=hn.2;omega) (fun n hn=>by have:=hn.2;omega)
     (by rw[etl];unfold most;omega) (fun n hn=>by
      rcases hn with hn|hn|hn
      ·exact⟨hn.1,by have:=hn.2;omega⟩
      ·exact⟨by have:H'.next+13≤n:=hn.1;omega,by have:=hn.2;omega⟩
      ·exact⟨by omega,by omega⟩)
    rw[etl] at e7 hf7;have hx7:HX H H7:=(hx'.trans hx6).then hk7 fun n hn hs=>by have:=hs.1;omega
    have gp7:=hk7.get hx6.wf (hx6.get hx'.wf gp') (fun hs=>by have:=hs.1;omega);have gq7:=hk7.get hx6.wf (hx6.get hx'.wf gq') (fun hs=>by have:=hs.1;omega);have gr7:=hk7.get hx6.wf (hx6.get hx'.wf gr') (fun hs=>by have:=hs.1;omega);have q3'':=row6 gr7
    repeat' (first|(refine EvC.reg ?_;simp (disch:=first|omega|rfl) only[sB,Za,t4,z0b])|(refine z0h ?_;simp (disch:=first|omega|rfl) only[sV,sD,sB,Za,Zb,Value.cells,one,reduceCtorEq,layC,z0j,st23,ld23,z4s,t3,q3,q3',e6,e7,gr7,isAlloc,isRead,dalloc]))
    have et:(t.args.take (i+1)).map (sub σ)=(t.args.take i).map (sub σ)++[sub σ t.args[i]]:=by rw[←ZA hlt,ZD];rfl
    exact⟨t.args.length - (i+1),by omega,_,_,i+1,some ⟨H6.next,0,none⟩,i+1,rfl,rfl,by omega,(by simp only[sG,Za,t0]),(by simp only[sG,Za,t1]),(by simp only[sG,Za,t2]),(by simp only[sG,Za,t3]),(by simp only[sB,Za];rfl),by rw[get_put,if_neg (by omega)];exact gp7,by rw[get_put,if_neg (by omega)];exact gq7,by rw[get_put,if_pos rfl],
     by
      rw[et];refine(hf7.heap (H':=H7.put (H.next+2) _) (fun n hn _=>?_) hx7.wf).sub (fun n hn=>⟨hn.1,by rw[z06,hn7];exact hn.2⟩);have:=hn.1;rw[get_put,if_neg (by omega)],hx7.pt (by omega) gr7 _⟩
   ·repeat' (first|refine EvC.seq ?_|(refine EvC.exit ?_;try simp only[sB,reduceCtorEq])|(refine EvC.reg ?_;simp only[sB,Za,z0j,ld23,ln23,t1,t4,q1,decn hlt])|(refine EvC.condF ?_ ?_;simp only[sB,Za];refine z07 ?_))
    have hi':i=t.args.length:=by omega
    subst hi';rw[Zi (Zg _),←hsa] at hfl;exact⟨_,_,ar,cr,rfl,(by simp only[sG,Za,t2]),(by simp only[sG,Za,t3]),gq',by rw[hsix];exact gr',hfl,hx'⟩
  ·exact⟨_,_,0,none,0,rfl,rfl,by omega,(by simp only[sG,Za,reduceCtorEq]),(by simp only[sG,Za,reduceCtorEq]),(by simp only[sG,Za,reduceCtorEq]),(by simp only[sG,Za,reduceCtorEq]),(by simp only[sB,Za,reduceCtorEq];rfl),by rw[get_put,if_neg (by omega)];exact gp3,by rw[get_put,if_neg (by omega)];exact gq3,by rw[get_put,if_pos rfl],.nil _,hx23.pt (by omega) gr _⟩
 ·rintro st ⟨tm,H',ar,cr,rfl,t2,t3,gq',gr',hfl,hx'⟩;have q3:=row6 gr';have hlt:=hx'.wf _ _ gr'
  repeat' (first|refine EvC.seq ?_|(refine EvC.ret ?_)|(refine EvC.reg ?_;simp (disch:=first|omega|rfl) only[sB,Za,Zb,one,st25,ld25,t2,t3,q3,gq']))
  have hx6:=hx'.pt (i:=H.next+1) (by omega) gq' (some (.row (six (sub σ t) ar cr) 25));refine z0a rfl (by simp only[sB,Za,t2];rfl) (by simp only[sB,Zb,cutC,ld25]) ⟨_,rfl,⟨ar,cr,rfl,hbd',(hfl.heap (fun n hn _=>?_) hx'.wf).sub fun n hn=>⟨by have:=hn.1;omega,hn.2⟩⟩,hx6⟩;have:=hn.1;rw[get_put,if_neg (by omega)]
end Go.Proofs.hq
end

section
namespace Go.Proofs.hq
open Go Go.RowKit Go.Hb
variable {ok:Ok}
set_option maxRecDepth 10000
attribute [local irreducible] LX LG EL STG SOP SGO SGD SAL SRD SEF SEG SLK SCK ES
abbrev bindC (n:Int) (i:Nat):List Value:=[.int .i64 n,.int .i64 1,.string Ze,.string Ze,.int .u64 0,.int .i64 (i:Nat),.slice none 0 0]
def cellsB:List Int→Nat→List Value
 |[],_=>[]
 |n :: L,i=>bindC n i++cellsB L (i+1)
def bndsB:List Int→Nat→List (Int × Tm)
 |[],_=>[]
 |n :: L,i=>(n,varT (i:Nat)) :: bndsB L (i+1)
theorem zbf:∀(L:List Int) (i:Nat),(cellsB L i).length=L.length*7
 |[],i=>rfl
 |n :: L,i=>by
  have h7:(bindC n i).length=7:=rfl;rw[cellsB,Zw,zbf L (i+1),h7,show (n :: L).length=L.length+1 from rfl];omega
theorem z59:∀(L:List Int) (i:Nat),(bndsB L i).length=L.length
 |[],i=>rfl
 |n :: L,i=>by rw[bndsB,ZE,z59 L (i+1),ZE]
theorem za1 (n:Int):∀(L:List Int) (i:Nat),cellsB (L++[n]) i=cellsB L i++bindC n (i+L.length)
 |[],i=>by rw[List.nil_append,cellsB,cellsB,cellsB];rfl
 |m :: L,i=>by
  rw[ZK,cellsB,za1 n L (i+1),cellsB,List.append_assoc,ZE,show i+1+L.length=i+(L.length+1) by omega]
theorem za2:∀(L:List Int) (i:Nat),(cellsB L i).all one=true
 |[],i=>rfl
 |n :: L,i=>by rw[cellsB,List.all_append,za2 L (i+1)];rfl
theorem zf7:∀(L:List Int) (i j:Nat) (h:j < L.length),((cellsB L i).drop (j*7)).take 7=bindC L[j] (i+j)
 |[],_,_,h=>by simp at h
 |n :: L,i,0,_=>by
  rw[cellsB,Zu,List.drop_zero,List.take_append_of_le_length (by simp)];rfl
 |n :: L,i,j+1,h=>by
  have h7:(bindC n i).length=7:=rfl;rw[cellsB,Nat.succ_mul,Nat.add_comm (j*7) 7,←List.drop_drop,List.drop_left' h7,zf7 L (i+1) j (by simpa using h)];simp only[List.getElem_cons_succ];rw[show i+1+j=i+(j+1) by omega]
theorem zid:∀(L:List Int) (i j:Nat) (h:j < (bndsB L i).length) (h':j < L.length),(bndsB L i)[j]=(L[j],varT ((i+j:Nat):Int))
 |[],_,_,_,h=>by simp at h
 |n :: L,i,0,_,_=>rfl
 |n :: L,i,j+1,h,h'=>by
  have:=zid L (i+1) j (by rw[z59];simpa using h') (by simpa using h');simp only[bndsB,List.getElem_cons_succ];rw[this,show i+1+j=i+(j+1) by omega]
theorem zbg {n:Int}:∀(L:List Int) (i:Nat),n∈L→∃p,(bndsB L i).find? (fun p=>p.1 == n)=some p∧p.2=varT ((i:Int)+plcZ L n)
 |[],i,h=>by simp at h
 |m :: L,i,h=>by
  by_cases hm:m=n
  ·subst hm;exact⟨(m,varT (i:Nat)),by simp [bndsB,List.find?_cons],by simp [plcZ,List.idxOf?,List.findIdx?_cons]⟩
  ·have hb:(m == n)=false:=by simp [hm]
   obtain⟨p,h1,h2⟩:=zbg (n:=n) L (i+1) (by rcases List.mem_cons.1 h with h|h;exact absurd h.symm hm;exact h);refine⟨p,by rw[bndsB,List.find?_cons];simp only[hb];exact h1,?_⟩;rw[h2];have hin:n∈L:=by rcases List.mem_cons.1 h with h|h;exact absurd h.symm hm;exact h
   unfold plcZ List.idxOf?;rw[List.findIdx?_cons,hb];simp only[Zd,if_false];cases hf:L.findIdx? fun x=>x == n with
   |none=>rw[List.findIdx?_eq_none_iff] at hf;have:=hf n hin;simp at this
   |some k=>simp;congr 1;omega
theorem zor {n:Int}:∀(l:List Int),n∈l→n∈uniq l:=by
 have h:∀(l L:List Int),(n∈L∨n∈l)→n∈l.foldl addU L:=by
  intro l
  induction l with
  |nil=>intro L h;rcases h with h|h;exact h;simp at h
  |cons m l ih =>
   intro L h;refine ih _ ?_;unfold addU;rcases h with h|h
   ·left;split;exact h;simp [h]
   ·rcases List.mem_cons.1 h with rfl|h
    ·left;split;assumption;simp
    ·exact .inr h
 exact fun l hl=>h l [] (.inr hl)
theorem zqa {n:Int}{t:Tm}:∀{l:List Tm},t∈l→n∈occ t→n∈occL l
 |[],h,_=>by simp at h
 |u :: l,h,hn=>by
  rw[occL];rcases List.mem_cons.1 h with rfl|h
  ·exact List.mem_append.2 (.inl hn)
  ·exact List.mem_append.2 (.inr (zqa h hn))
def BnL (H:Heap) (S:Nat→Prop) (L:List Int) (v:Value):Prop :=
 (L=[]∧v=.slice none 0 0)∨∃b c,v=.slice (some ⟨b,0,none⟩) L.length c∧L.length≤c∧c≤maxLen∧H.get b=some (.row (cellsB L 0) 109)∧S b
theorem BnL.rep {H:Heap}{S:Nat→Prop}{L:List Int}{v:Value}(h:BnL H S L v) (hL:L.length≤most):∃a c,v=.slice a (bndsB L 0).length c∧RepBs H (bndsB L 0) a c:=by
 have hms:most≤9223372036854775807:=by simp [most]
 rcases h with ⟨rfl,rfl⟩|⟨b,c,rfl,h1,h2,h3,h4⟩
 ·exact⟨none,0,rfl,Zg _,Zs _,fun i hi=>by simp [bndsB] at hi⟩
 ·refine⟨_,c,by rw[z59],by rw[z59];exact h1,h2,fun i hi=>?_⟩;have hi':i < L.length:=by rw[z59] at hi;exact hi
  have hat:=zid L 0 i hi hi';have hc:=zf7 L 0 i hi';rw[Nat.zero_add] at hat hc;have c1:((cellsB L 0).drop (i*7)).take 1=[.int .i64 L[i]]:=by
   have:=congrArg (List.take 1) hc;rw[List.take_take] at this;exact this
  have c6:((cellsB L 0).drop (i*7+1)).take 6=six (varT (i:Nat)) none 0:=by
   have:=congrArg (fun x=>(x.drop 1)) hc;simp only[List.drop_take,List.drop_drop] at this;exact this
  rw[hat];refine⟨b,0,none,0,rfl,?_,?_,zlv ⟨by omega,by omega⟩⟩
  ·unfold Heap.load Heap.cells;simp only[h3,Nat.zero_add,c1];rfl
  ·unfold Heap.load Heap.cells;simp only[h3,Nat.zero_add,c6];rfl
theorem BnL.push {H:Heap}{S S2:Nat→Prop}{L:List Int}{n:Int}{v:Value}{ad:Addr}{c1:Nat}(h:BnL H S L v) (hw:H.wf) (hl:H.load ad (1*7)=some (bindC n L.length)) (hm:L.length+1≤most) (h2:S2 H.next) :
  ∃H2 v2,dAp Tryz.prog #[107,107] v (.slice (some ad) 1 c1) H=some (.val v2 H2)∧BnL H2 S2 (L++[n]) v2∧HK S H H2∧H2.next=H.next+1:=by
 have hp:apOk Tryz.prog 107 109 7:=zto;have hmax:L.length+1≤maxLen:=Zo hm (by simp [most,maxLen]);have hcl:=zbf L 0;rcases h with ⟨rfl,rfl⟩|⟨b,c,rfl,hlc,hcm,hg,hs⟩
 ·exact⟨_,_,z4r hp (by omega) hm hl rfl,.inr ⟨H.next,1,rfl,Zg _,hmax,z0o,h2⟩,((HX.refl hw).new _).hk _,rfl⟩
 ·refine⟨_,_,z4c hp (by omega) hm hl rfl hg (by omega) (by rw[Zi (by omega)];exact za2 L 0),.inr ⟨H.next,L.length+1,by simp,by simp,hmax,?_,h2⟩,((HK.refl hw).put (.inl hs) (hw _ _ hg) none).new _,rfl⟩;show ((H.put b none).new _).get (H.put b none).next=_;rw[z0o,Zi (by omega),za1,Nat.zero_add]
theorem BnL.heap {H H':Heap}{S:Nat→Prop}{L:List Int}{v:Value}(h:BnL H S L v) (hk:∀n,S n→n < H.next→H'.get n=H.get n) (hw:H.wf):BnL H' S L v:=by
 rcases h with h|⟨b,c,h1,h2,h3,h4,h5⟩
 ·exact .inl h
 ·exact .inr ⟨b,c,h1,h2,h3,(hk b h5 (hw _ _ h4)).trans h4,h5⟩
theorem BnL.slice {H:Heap}{S:Nat→Prop}{L:List Int}{v:Value}(h:BnL H S L v):∃a c,v=.slice a L.length c:=by
 rcases h with ⟨rfl,rfl⟩|⟨b,c,rfl,-⟩
 ·exact⟨none,0,rfl⟩
 ·exact⟨_,c,rfl⟩
set_option maxHeartbeats 8000000 in
theorem zmu {l:List Tm}{a:Option Addr}{c:Nat}{cells:Nat→List Value}{H:Heap}(rl:RepL H l a c cells) (hf:∀t∈l,Fine t) (hlen:(occL l).length≤most) (hl:l.length≤most) (hw:H.wf) :
  EvF Tryz.prog okT 49 [.slice a l.length c] H fun v H'=>∃a' c',v=.slice a' (plainL l).length c'∧FL H' 25 (Rg H.next H'.next) (plainL l) a' c'∧HX H H':=by
 have hmx:=rl.max;have hms:most≤9223372036854775807:=by simp [most]
 have ean:apOk Tryz.prog 23 25 6:=ap23;refine EvF.enter rfl Tryz.func49 (by decide) rfl ?_
 repeat' (first|refine EvC.seq ?_|(refine EvC.reg ?_;simp only[sB,initTm,Za,reduceCtorEq,cl50]))
 refine(zbe rl hlen hw).mono ?_;rintro v H1 ⟨hi1,hx1⟩;have nn1:=hx1.next;have hLl:(uniq (occL l)).length≤most:=Zo (z5h _) hlen;have hmem:∀t∈l,∀n∈occ t,n∈uniq (occL l):=fun t ht n hn=>zor _ (zqa ht hn)
 try simp only[]
 (repeat refine EvC.seq ?_);refine EvC.reg ?_;simp only[sA];(repeat refine EvC.seq ?_);refine EvC.reg ?_;simp only[sA];unfold plainL;generalize hLdef:uniq (occL l)=L at *;obtain⟨av,cv,rfl,hrd,hSv⟩:=hi1.rd;refine EvC.meet (fun st=>∃tm H' vb S,st=⟨tm,[],H'⟩∧tm.get 0=some (.slice a l.length c)∧tm.get 4=some vb∧BnL H' S L vb∧HX H H') ?_ ?_
 ·refine EvC.block (EvC.loop (fun k st=>∃tm H' i vb S,st=⟨tm,[],H'⟩∧k=L.length - i∧i≤L.length∧tm.get 0=some (.slice a l.length c)∧tm.get 3=some (.slice av L.length cv)∧tm.get 4=some vb∧tm.get 5=some (.int .i64 (i:Nat)) ∧
   BnL H' S (L.take i) vb∧(∀n,S n→H1.next≤n∧n < H'.next)∧HX H1 H') ?_ L.length _ ?_)
  ·rintro k st ⟨tm,H',i,vb,S,rfl,rfl,hi,t0,t3,t4,t5,hb,hS,hx'⟩;by_cases hlt:i < L.length
   ·obtain⟨b,o,rfl,hld⟩:=hrd.get i hlt;have hld1:=hx'.load hx1.wf hld
    repeat' (first|refine EvC.seq ?_|refine EvC.block ?_|(refine EvC.skip ?_;try simp only[z00])|(refine EvC.reg ?_;simp only[sB,Za,ln77,t3,t5,decl hlt])|(refine EvC.drw [([(5,0)],some 6),([(0,0),(1,0),(2,0),(3,0),(4,0),(7,1),(8,1)],some 9),([(10,2)],none)] ?_ ?_;kernel_rfl;simp only[sD,sB,Za,Zb,cl22,t5,isAlloc,isRead])|(refine EvC.condT ?_ ?_;simp only[sB,Za];refine z07 ?_))
    have hbm:=hx'.bump 11;refine(V_ev hbm.wf).mono ?_;rintro v H3 ⟨rfl,hx3⟩;have hld3:=hx3.load hbm.wf (show Heap.load ⟨H'.next+11,H'.t⟩ _ _=_ from hld1);have hb3:=((HX.refl hx'.wf).bump 11).trans hx3;have n3:H'.next+11≤H3.next:=hx3.next
    repeat' (first|(refine z0h ?_;simp (disch:=first|omega|rfl) only[sV,sD,sB,Za,Zb,Value.cells,one,reduceCtorEq,Zk,layC,ia77,ld3,ztn,zqq,t3,t4,t5,hld1,hld3,isAlloc,isRead,dalloc,Bool.and_true]))
    have hx6:HX H' (H3.put (H'.next+8) (some (.row [.int .i64 L[i],.int .i64 1,.string Ze,.string Ze,.int .u64 0,.int .i64 (i:Nat),.slice none 0 0] 109))):=hb3.put (i:=H'.next+8) (Nat.le_add_right _ _) (by omega) _;obtain⟨H6,e6⟩:∃H6,H3.put (H'.next+8) (some (.row [.int .i64 L[i],.int .i64 1,.string Ze,.string Ze,.int .u64 0,.int .i64 (i:Nat),.slice none 0 0] 109))=H6:=⟨_,rfl⟩
    have g6:H6.get (H'.next+8)=some (.row (bindC L[i] i) 109):=by rw[←e6,get_put,if_pos rfl]
    have hn6:H6.next=H3.next:=by rw[←e6,z06]
    rw[e6] at hx6;have etl:(L.take i).length=i:=by rw[Zl];omega
    obtain⟨H7,v2,e7,hb7,hk7,hn7⟩:=BnL.push (S2:=fun n=>n=H6.next) (n:=L[i]) (ad:=⟨H'.next+8,0,none⟩) (c1:=1) (hb.heap (H':=H6) (fun n _ hl=>hx6.keep n hl) hx'.wf) hx6.wf
     (by rw[etl];unfold Heap.load Heap.cells;simp only[g6];rfl) (by rw[etl];omega) rfl
    have hx7:HX H1 H7:=(hx'.trans hx6).then hk7 fun n hn hs=>by have:=(hS n hs).1;omega
    repeat' (first|(refine EvC.reg ?_;simp (disch:=first|omega|rfl) only[sB,Za,t5,z0b])|(refine zsb ?_;simp only[sD,sB,Za,Zb,e6,e7,isAlloc,isRead]))
    exact⟨L.length - (i+1),by omega,_,_,i+1,v2,_,rfl,rfl,by omega,(by simp only[sG,reduceCtorEq,t0]),(by simp only[sG,Za,t3]),(by simp only[sG,Za]),(by simp only[sB,Za];rfl),by rw[←ZA hlt];exact hb7,fun n hn=>⟨by have:=hx'.next;omega,by omega⟩,hx7⟩
   ·repeat' (first|refine EvC.seq ?_|(refine EvC.exit ?_;try simp only[sB,reduceCtorEq])|(refine EvC.reg ?_;simp only[sB,Za,ln77,t3,t5,decn hlt])|(refine EvC.condF ?_ ?_;simp only[sB,Za];refine z07 ?_))
    rw[Zi (by omega)] at hb;exact⟨_,_,vb,S,rfl,(by simp only[sG,reduceCtorEq,t0]),(by simp only[sG,Za,t4]),hb,hx1.trans hx'⟩
  ·exact⟨_,_,0,.slice none 0 0,fun _=>False,rfl,rfl,by omega,(by simp only[sG,reduceCtorEq]),(by simp only[sG,Za,reduceCtorEq]),(by simp only[sG,Za,reduceCtorEq]),(by simp only[sB,Za,reduceCtorEq];rfl),.inl ⟨by simp,rfl⟩,fun n h=>h.elim,HX.refl hx1.wf⟩
 rintro st ⟨tm,H5,vb,S,rfl,t0,t4,hb5,hx5⟩;obtain⟨ab,cb,rfl,hbs⟩:=hb5.rep hLl
 repeat' (first|refine EvC.seq ?_|refine EvC.block ?_|(refine EvC.reg ?_;simp only[sA]))
 have hmax5:∀n∈occL l,True:=fun _ _=>trivial
 have few:∀{t:Tm},Fine t→Few 1000000 t:=fun {t} h=>(Fine.few _ (Zf _) h).up (by omega)
 have hfewσ:∀n,Few 1000000 (varT (plcZ L n)):=fun n=>few (zch (z3i L n).1)
 refine EvC.loop (fun k st=>∃tm H' i ar cr,st=⟨tm,[],H'⟩∧k=l.length - i∧i≤l.length∧tm.get 0=some (.slice a l.length c)∧tm.get 4=some (.slice ab (bndsB L 0).length cb)∧tm.get 6=some (.slice ar i cr)∧tm.get 7=some (.int .i64 (i:Nat)) ∧
   FL H' 25 (Rg H5.next H'.next) ((l.take i).map (sub fun n=>varT (plcZ L n))) ar cr∧HX H5 H') ?_ l.length _ ?_
 ·rintro k st ⟨tm,G,i,ar,cr,rfl,rfl,hi,t0,t4,t6,t7,hfl,hxG⟩;have hxHG:=hx5.trans hxG;by_cases hlt:i < l.length
  ·obtain⟨b,o,a1,c1,rfl,hld,hr1⟩:=rl.el hlt;have hld1:=hxHG.load hw hld
   repeat' (first|refine EvC.seq ?_|refine EvC.block ?_|(refine EvC.skip ?_;try simp only[z00])|(refine EvC.reg ?_;simp (disch:=first|omega|rfl) only[sB,Za,Zb,Value.cells,reduceCtorEq,layC,ln23,ia23,ld25,cl74,z4s,t0,t4,t6,t7,decl hlt,hld1])|(refine EvC.condT ?_ ?_;simp only[sB,Za];refine z07 ?_))
   refine(zs0 (σ:=fun n=>varT (plcZ L n)) hfewσ (Zf _) (hr1.mono hxHG hw) (few (hf _ (Zx _))) (hbs.mono hxG hx5.wf) (fun n hn=>?_) hxG.wf).mono ?_
   ·obtain⟨p,h1,h2⟩:=zbg L 0 (hmem _ (Zx hlt) n hn);exact⟨p,h1,by rw[h2];simp⟩
   rintro v H6 ⟨cs',rfl,⟨a2,c2,rfl,hb2,hf2⟩,hx6⟩;have n6:=hx6.next
   repeat' (first|(refine z0i ?_;simp (disch:=first|omega|rfl) only[sB,Za,Zb,one]))
   obtain⟨H7,e7,hx7,g7,hn7,hw7⟩:=new1 hx6.wf (.row (six (sub (fun n=>varT (plcZ L n)) l[i]) a2 c2) 25);simp only[e7];have hx67:=hx6.trans hx7;have etl:((l.take i).map (sub fun n=>varT (plcZ L n))).length=i:=by rw[Zq,Zl];omega
   obtain⟨H8,e8,hf8,hk8,hn8⟩:=FL.push (S2:=Rg H5.next (H7.next+1)) (c1:=1) ean (hfl.keep hx67 hxG.wf) hw7 (row6 g7).2.2.2.2.2.2 (hf2.keep hx7 hx6.wf) hb2 (fun n hn hs=>by have:=hn.1;have:=hs.2;omega) (fun n hn=>by have:=hn.2;omega) (fun n hn=>by have:=hn.2;omega)
    (by rw[etl];omega) (fun n hn=>by
     rcases hn with hn|hn|hn
     ·exact⟨hn.1,by have:=hn.2;omega⟩
     ·exact⟨by have:=hn.1;have:=hxG.next;omega,by have:=hn.2;omega⟩
     ·exact⟨by have:=hxG.next;omega,by omega⟩)
   rw[etl] at e8 hf8;have hx8:HX H5 H8:=(hxG.trans hx67).then hk8 fun n hn hs=>by have:=hs.1;omega
   repeat' (first|(refine EvC.reg ?_;simp (disch:=first|omega|rfl) only[sB,Za,t7,z0b])|(refine z0i ?_;simp only[sB,Za,e8]))
   have et:(l.take (i+1)).map (sub fun n=>varT (plcZ L n))=(l.take i).map (sub fun n=>varT (plcZ L n))++[sub (fun n=>varT (plcZ L n)) l[i]]:=by rw[←ZA hlt,ZD];rfl
   exact⟨l.length - (i+1),by omega,_,_,i+1,some ⟨H7.next,0,none⟩,i+1,rfl,rfl,by omega,(by simp only[sG,reduceCtorEq,t0]),(by simp only[sG,Za,t4]),(by simp only[sG,Za]),(by simp only[sB,Za];rfl),by rw[et,hn8];exact hf8,hx8⟩
  ·repeat' (first|refine EvC.seq ?_|(refine EvC.exit ?_;try simp only[sB])|(refine EvC.ret ?_)|(refine EvC.reg ?_;simp only[sB,Za,reduceCtorEq,ln23,t0,t6,t7,decn hlt])|(refine EvC.condF ?_ ?_;simp only[sB,Za];refine z07 ?_))
   have hi':i=l.length:=by omega
   rw[hi',Zi (Zg _)] at hfl;refine z03 rfl (by simp only[sB,Za];rfl) ⟨ar,cr,by rw[Zq,hi'],hfl.sub fun n hn=>⟨by have:=hx5.next;have:=hn.1;omega,hn.2⟩,hxHG⟩
 ·exact⟨_,_,0,none,0,rfl,rfl,by omega,(by simp only[sG,reduceCtorEq,t0]),(by simp only[sG,Za,t4]),(by simp only[sG,Za]),(by simp only[sB,Za];rfl),.nil _,HX.refl hx5.wf⟩
def RReadEnd (H:Heap) (R:ByteArray × Cls × Er) (v:Value) (H':Heap):Prop:=HX H H'∧∃cs sd,v=.tuple ⟨[.string R.1,.agg ⟨cs⟩,.agg ⟨sd⟩]⟩∧RepC H' (Rg H.next H'.next) R.2.1 cs∧RSaid H' (Rg H.next H'.next) R.2.2 sd
theorem zg9 {H:Heap}(hw:H.wf) {i:Nat}{X A B C:Blk}(hi:H.get i=some X):∃H2,((H.new (some A)).put i (some B)).put H.next (some C)=H2∧(∀n,n < H.next→n≠i→H2.get n=H.get n)∧H2.get i=some B∧H2.get H.next=some C∧H2.next=H.next+1∧H2.wf:=by
 have hl:=hw _ _ hi;have hx:=(((HX.refl hw).new (some A)).hk (·=i))
 have hy:=(hx.put (i:=i) (.inl rfl) (by show i < H.next+1;omega) (some B)).put (i:=H.next) (.inr (Zg _)) (by show H.next < H.next+1;omega) (some C);refine⟨_,rfl,fun n hn hne=>hy.keep n hn hne,by rw[get_put,if_neg (by omega),get_put,if_pos rfl],by rw[get_put,if_pos rfl],rfl,hy.wf⟩
theorem z3k {H G:Heap}{R:ByteArray × Cls × Er}{e:Er}{tm:Tr Value}{cs5 cs6:List Value}{lo hi:Nat}{en:Int}{eb:Bool}{et:Tm}{ea:Option Addr}{ec:Nat}(hR:R=(Ze,zeroC,e)) (hx:HX H G) (g5:G.get (H.next+1)=some (.row cs5 32)) (g6:G.get (H.next+1+1)=some (.row cs6 39)) (t4:tm.get 4=some (.string Ze)) (t5:tm.get 5=some (.pointer (some ⟨H.next+1,0,none⟩))) (t6:tm.get 6=some (.pointer (some ⟨H.next+1+1,0,none⟩)))
  (he:RSaid G (Rg lo hi) e (saidT en eb et ea ec)) (h1:H.next+3≤lo) (h2:hi≤G.next):Ex.leave Tryz.prog okT Tryz.f8 (RReadEnd H R) .ret ⟨tm,[],(G.put (H.next+1) (some (.row zero15 32))).put (H.next+1+1) (some (.row (saidT en eb et ea ec) 39))⟩:=by
 have hz:=(hx.pt (i:=H.next+1) (by omega) g5 (some (.row zero15 32))).pt (i:=H.next+1+1) (by omega) (by rw[get_put,if_neg (by omega)];exact g6) (some (.row (saidT en eb et ea ec) 39));subst hR;refine z58 rfl t4 t5 (by simp only[sB,Zb,cutC,ld32,neu]) t6 (by simp only[sB,Za,Zb,cutC,ld39]) ⟨hz,_,_,rfl,RepC.zero,he.to fun n hn hl=>?_⟩;have:=hn.1;exact⟨by rw[get_put,if_neg (by omega),get_put,if_neg (by omega)],⟨by omega,by rw[z06,z06];exact hl⟩,by rw[z06,z06];exact hl⟩
theorem zmv {f:Int→Int}{r:Tm}{b:Bdy}(hf:∀n,0≤f n) (hr:checkS r=0) (hb:bodyF (SizeOf.sizeOf r+1) r=some b) (hn:cnt (toldB b) 0≤400):bodyF (SizeOf.sizeOf (ren f r)+1) (ren f r)=some (readyS (ren f r)).1:=by
 have fr:=(z0e.1 hr).2;have hR:=zg5 hb;obtain⟨b1,hR1,ht1⟩:=zth (f:=f) fr hR;have ftb:=z9x fr hR;have n2:nd (toldB b)≤400:=zom hn (by decide);have n3:nd (toldB b1)=nd (toldB b):=by rw[ht1,zet _ (Zf _) ftb]
 have e:=zcq (Zf _) hR1;have hry:readyS (ren f r)=(b1,.ok):=by
  unfold readyS;rw[if_neg (fun q=>q (z69 hf hr)),e];simp only;rw[if_neg (by rw[z45 _ _ (Zf _) 0 (by omega)];omega)]
 rw[e,hry]
theorem z7s {e:Er}:noneB e=true↔e=.ok:=by cases e<;>simp [noneB]
set_option maxHeartbeats 16000000 in
theorem zos {m:ByteArray}{t:Tm}{cs:List Value}{H:Heap}(r0:RepT H t cs) (hw:H.wf):EvF Tryz.prog okT 8 [.string m,.agg ⟨cs⟩] H (RReadEnd H (readS m t)):=by
 obtain⟨a,c,cells,rfl,-⟩:=r0.six;refine EvF.enter rfl Tryz.func8 (by decide) rfl ?_;(repeat refine EvC.seq ?_);refine EvC.reg ?_;simp (config := { maxSteps := 2000000 }) (disch:=first|omega|rfl) only[sB,initTm,dBox,dAlloc,Value.cells,one,reduceCtorEq,zr32,zr39];obtain⟨H2,e2,hx2,g3,g5,g6,hn2,hw2⟩:=zlm hw (.row (six t a c) 25) (.row zero15 32) (.row said0 39);simp only[e2];clear e2;have g6:H2.get (H.next+1+1)=some (.row said0 39):=g6;(repeat refine EvC.seq ?_);refine EvC.reg ?_;simp (config := { maxSteps := 2000000 }) only[sA,dAlloc,zr32];obtain⟨H3,e3,hx3,g7,hn3,w3⟩:=new1 hw2 (.row zero15 32);simp only[e3];clear e3;have g3:=hx3.get hw2 g3;have g5:=hx3.get hw2 g5;have g6:=hx3.get hw2 g6;have hx:=hx2.trans hx3;have q3:=row6 g3;(repeat refine EvC.seq ?_);refine EvC.reg ?_;simp (config := { maxSteps := 2000000 }) only[sB,Za,reduceCtorEq,ld25,cl14,q3];refine(z4x t _ _ (r0.mono hx hw) w3).mono ?_;rintro v H4 ⟨rfl,hx4⟩;have g3:=hx4.get w3 g3;have g5:=hx4.get w3 g5;have g6:=hx4.get w3 g6;have g7:=hx4.get w3 g7;have hx:=hx.trans hx4;have w4:=hx.wf;have n4:=hx4.next;have q3:=row6 g3;have q7:=z0u g7;try simp (config := { maxSteps := 2000000 }) only[]
 by_cases hc:checkS t=0;rotate_left
 ·have hR:readS m t=(Ze,zeroC,.num (checkS t)):=by unfold readS;rw[if_pos hc]
  repeat' (first|refine EvC.seq ?_|(refine EvC.ret ?_;try simp only[z04,z02])|(refine EvC.reg ?_;simp (config := { maxSteps := 2000000 }) (disch:=first|omega|rfl) only[sB,Za,reduceCtorEq,z1j hc,neu'])|(refine EvC.drw (id:=4) [([(0,0),(3,0)],some 4),([(1,0),(2,0)],some 5),([],none)] ?_ ?_;kernel_rfl;simp (config := { maxSteps := 2000000 }) (disch:=first|omega|rfl) only[sV,sD,sB,Za,Zb,Value.cells,one,reduceCtorEq,Zk,layC,ld32,bd39,st32,st39,q7,g5,g6,neu,neu',isAlloc,isRead])|(refine EvC.condT ?_ ?_;simp (config := { maxSteps := 2000000 }) (disch:=first|omega|rfl) only[sB,Za,reduceCtorEq,neu'];refine z07 ?_))
  exact z3k (lo:=H.next+3) (hi:=H.next+3) (et:=zeroT) (ea:=none) (ec:=0) hR (hx.bump _) g5 g6 (by simp only[sB,Za,reduceCtorEq];rfl) (by simp only[sG,Za,reduceCtorEq]) (by simp only[sG,Za,reduceCtorEq]) ⟨hc,rfl⟩ (Zg _) (by show H.next+3≤H4.next+_;omega)
 (repeat refine EvC.seq ?_);refine EvC.reg ?_;simp (config := { maxSteps := 2000000 }) only[sB,Za,reduceCtorEq,z0z hc];refine EvC.condF (by simp (config := { maxSteps := 2000000 }) only[sB,Za,reduceCtorEq]) ?_;(try refine EvC.skip ?_);(try simp only[z00,z01]);(repeat refine EvC.seq ?_);refine EvC.reg ?_;simp (config := { maxSteps := 2000000 }) only[sB,Za,reduceCtorEq,ld25,cl40,q3];refine(zf6 (m:=m) r0 hx hw hc w4).mono ?_;rintro v H5 ⟨hx5,a1,c1,sd1,rfl,r1,he1,hc1⟩;obtain⟨n1,b1,u1,s1,k1,rfl⟩:=he1.cells;have g3:=hx5.get w4 g3;have g5:=hx5.get w4 g5;have g6:=hx5.get w4 g6;have g7:=hx5.get w4 g7;have hx5':=hx.trans hx5;have n5:=hx5.next;have w5:=hx5.wf;obtain⟨⟨m1,t1,e1⟩,hS⟩:∃R,stripS m t=R:=⟨_,rfl⟩
 rw[hS] at r1 he1 hc1 ⊢;simp only at r1 he1 hc1;have ne3:(H.next=H5.next)=False:=by simp;have:=w5 _ _ g3;omega
 have ne3':(H5.next=H.next)=False:=by simp;have:=w5 _ _ g3;omega
 try simp (config := { maxSteps := 2000000 }) (disch:=first|omega|rfl) only[sB,dAlloc,Za,Zb,one,reduceCtorEq,zr39,st39,st25,g3,ne3,ne3']
 obtain⟨H6,e6,k6,g3',g9,hn6,w6⟩:=zg9 w5 (A:=.row said0 39) (B:=.row (six t1 a1 c1) 25) (C:=.row (saidT n1 b1 u1 s1 k1) 39) g3;simp only[e6];clear e6 g3;have hx6:HX H H6:=⟨by have:=hx5'.next;omega,fun n hn=>by rw[k6 n (by have:=hx5'.next;omega) (by omega)];exact hx5'.keep n hn,w6⟩
 have g3:=g3';have g5:=(k6 _ (by have:=w5 _ _ g5;omega) (by omega)).trans g5;have g6:=(k6 _ (by have:=w5 _ _ g6;omega) (by omega)).trans g6;have g7:=(k6 _ (by have:=w5 _ _ g7;omega) (by omega)).trans g7;have he1:RSaid H6 (Rg H4.next H5.next) e1 (saidT n1 b1 u1 s1 k1):=he1.to fun n hn hl=>⟨k6 n hl (by have:=hn.1;omega),hn,by omega⟩
 have q9:=rowS g9;(repeat refine EvC.seq ?_);refine EvC.reg ?_;simp (config := { maxSteps := 2000000 }) only[sB,Za,reduceCtorEq,ld39,cl41,q9];refine(z78 he1 w6).mono ?_;rintro v H7 ⟨rfl,hx7⟩;have w7:=hx7.wf;have n7:=hx7.next;have g3:=hx7.get w6 g3;have g5:=hx7.get w6 g5;have g6:=hx7.get w6 g6;have g7:=hx7.get w6 g7;have g9:=hx7.get w6 g9;have hx7':=hx6.trans hx7;have he1:RSaid H7 (Rg H4.next H5.next) e1 (saidT n1 b1 u1 s1 k1):=he1.to fun n hn hl=>⟨hx7.keep n hl,hn,by omega⟩
 have q3:=row6 g3;have q7:=z0u g7;have q9:=rowS g9;try simp (config := { maxSteps := 2000000 }) only[]
 by_cases ho:e1=.ok;rotate_left
 ·have hR:readS m t=(Ze,zeroC,e1):=by
   unfold readS;rw[if_neg (fun h=>h hc),hS];cases e1 with
   |ok=>exact absurd rfl ho
   |num n=>rfl
   |ball u=>rfl
  have hnn:noneB e1=false:=by
   cases h:noneB e1 with
   |false=>rfl
   |true=>exact absurd (z7s.1 h) ho
  have ne5:(H5.next=H.next+1)=False:=eq_false (by omega);have ne5':(H5.next=H.next+1+1)=False:=eq_false (by omega)
  repeat' (first|refine EvC.seq ?_|(refine EvC.ret ?_;try simp only[z04,z02])|(refine EvC.reg ?_;simp (config := { maxSteps := 2000000 }) (disch:=first|omega|rfl) only[sB,Za,reduceCtorEq,hnn,Zt,neu'])|(refine EvC.drw (id:=8) [([(0,0),(2,0)],some 3),([(1,0)],some 4),([],none)] ?_ ?_;kernel_rfl;simp (config := { maxSteps := 2000000 }) (disch:=first|omega|rfl) only[sV,sD,sB,Za,Zb,one,reduceCtorEq,cutC,ld32,st32,st39,ld39,q7,q9,g5,g6,neu,neu',ne5,isAlloc,isRead])|(refine EvC.condT ?_ ?_;simp (config := { maxSteps := 2000000 }) (disch:=first|omega|rfl) only[sB,Za,reduceCtorEq,neu'];refine z07 ?_))
  exact z3k (lo:=H4.next) (hi:=H5.next) hR (hx7'.bump _) g5 g6 (by simp only[sB,Za,reduceCtorEq];rfl) (by simp only[sG,Za,reduceCtorEq]) (by simp only[sG,Za,reduceCtorEq]) (he1.to fun n hn hl=>⟨rfl,hn,by show n < H7.next+_;omega⟩) (by omega) (by show _≤H7.next+_;omega)
 subst ho;have hR1:readS m t=readH m1 (headOf t1) (restOf t1):=by
  unfold readS;rw[if_neg (fun h=>h hc),hS]
 rw[hR1];(repeat refine EvC.seq ?_);refine EvC.reg ?_;simp (config := { maxSteps := 2000000 }) only[sB,Za,reduceCtorEq];refine EvC.condF (by simp (config := { maxSteps := 2000000 }) only[sB,Za,reduceCtorEq,show noneB .ok=true from rfl,Zp]) ?_;(try refine EvC.skip ?_);(try simp only[z00,z01]);(repeat refine EvC.seq ?_);refine EvC.reg ?_;simp (config := { maxSteps := 2000000 }) (disch:=first|omega|rfl) only[sB,dAlloc,Za,Zb,one,reduceCtorEq,ld25,st25,zr25,q3];obtain⟨H8,e8,hx8,g11,hn8,w8⟩:=z0l w7 (.row zero6 25) (.row (six t1 a1 c1) 25);simp only[e8];clear e8;(repeat refine EvC.seq ?_);refine EvC.reg ?_;simp (config := { maxSteps := 2000000 }) only[sB,dAlloc,Za,reduceCtorEq,zr25,cl25];refine(zjl (s:=sTrue) w8).mono ?_;rintro v H9 ⟨rfl,hx9⟩;have w9:=hx9.wf;try simp (config := { maxSteps := 2000000 }) (disch:=first|omega|rfl) only[sB,Zb,one,st25]
 obtain⟨H10,e10,hx10,g12,hn10,w10⟩:=z0l w9 (.row zero6 25) (.row (six (atmT sTrue) none 0) 25);simp only[e10];clear e10;have k80:=hx9.trans hx10;have k70:=hx8.trans k80;have g3:=k70.get w7 g3;have g5:=k70.get w7 g5;have g6:=k70.get w7 g6;have g7:=k70.get w7 g7;have g9:=k70.get w7 g9;have g11:=k80.get w8 g11;have hx10':=hx7'.trans k70;have q3:=row6 g3;(repeat refine EvC.seq ?_);refine EvC.reg ?_;simp (config := { maxSteps := 2000000 }) only[sB,Za,reduceCtorEq,ld25,cl42,q3];refine(z88 (s:=sNck) (r1.mono hx10' hw) w10).mono ?_;rintro v H11 ⟨rfl,hx11⟩;have g3:=hx11.get w10 g3;have g5:=hx11.get w10 g5;have g6:=hx11.get w10 g6;have g7:=hx11.get w10 g7;have g9:=hx11.get w10 g9;have g11:=hx11.get w10 g11;have g12:=hx11.get w10 g12;have hx11':=hx10'.trans hx11;have w11:=hx11.wf;have q3:=row6 g3;have n8:=hx8.next;have n9:=hx9.next;have n10:=hx10.next;have n11:=hx11.next;obtain⟨p11,ep11⟩:∃p,H7.next=p:=⟨_,rfl⟩
 obtain⟨p12,ep12⟩:∃p,H9.next=p:=⟨_,rfl⟩
 obtain⟨p9,ep9⟩:∃p,H5.next=p:=⟨_,rfl⟩
 rw[ep11] at g11;rw[ep12] at g12;rw[ep9] at g9;try simp (config := { maxSteps := 2000000 }) only[]
 simp only[ep11,ep12,ep9];refine EvC.join (fun st=>∃tm G ah ch ar cr,st=⟨tm,[],G⟩∧tm.get 0=some (.string m1)∧tm.get 5=some (.pointer (some ⟨H.next+1,0,none⟩))∧tm.get 6=some (.pointer (some ⟨H.next+1+1,0,none⟩))∧tm.get 7=some (.pointer (some ⟨H2.next,0,none⟩))∧tm.get 9=some (.pointer (some ⟨p9,0,none⟩)) ∧
   tm.get 11=some (.pointer (some ⟨p11,0,none⟩))∧tm.get 12=some (.pointer (some ⟨p12,0,none⟩))∧G.get p11=some (.row (six (headOf t1) ah ch) 25)∧G.get p12=some (.row (six (restOf t1) ar cr) 25) ∧
   G.get (H.next+1)=some (.row zero15 32)∧G.get (H.next+1+1)=some (.row said0 39)∧G.get H2.next=some (.row zero15 32)∧G.get p9=some (.row (saidT n1 b1 u1 s1 k1) 39) ∧
   RepT H (headOf t1) (six (headOf t1) ah ch)∧RepT H (restOf t1) (six (restOf t1) ar cr)∧checkS (headOf t1)=0∧checkS (restOf t1)=0∧HX H G) ?_ ?_
 ·by_cases hn:isF t1 sNck
  ·obtain⟨x,y,hxy⟩:∃x y,t1.args=[x,y]:=by
    match hl:t1.args,hn.2.2 with
    |[x,y],_=>exact⟨x,y,rfl⟩
   have eh:headOf t1=x:=by unfold headOf;rw[if_pos hn];unfold Tm.at;rw[hxy];rfl
   have er:restOf t1=y:=by unfold restOf;rw[if_pos hn];unfold Tm.at;rw[hxy];rfl
   have x0:t1.args[0]'(by rw[hxy];simp)=x:=by simp [hxy]
   have y1:t1.args[1]'(by rw[hxy];simp)=y:=by simp [hxy]
   obtain⟨a0,c0,cells0,hcs,-,-,-,-,-,rl⟩:=r1.six;obtain⟨-,-,-,-,-,rfl,rfl⟩:=z4h hcs;obtain⟨b,o,ax,cx,rfl,hld0,hr0⟩:=rl.el (i:=0) (by rw[hxy];simp);obtain⟨b',o',ay,cy,e2,hld1,hr1⟩:=rl.el (i:=1) (by rw[hxy];simp);cases e2;rw[x0] at hld0 hr0;rw[y1] at hld1 hr1;simp only[Zu,Nat.add_zero,ZL] at hld0 hld1;have hcx:=z0p hc1 (u:=x) (by rw[hxy];simp);have hcy:=z0p hc1 (u:=y) (by rw[hxy];simp);have l0:=hx11'.load hw hld0;have hxl:t1.args.length=2:=hn.2.2;rw[eh,er];refine EvC.condT (by simp (config := { maxSteps := 2000000 }) only[sB,Za,reduceCtorEq,decide_eq_true hn]) ?_;(try refine EvC.skip ?_);(try simp only[z00,z01]);(repeat refine EvC.seq ?_);refine EvC.reg ?_;simp (config := { maxSteps := 2000000 }) (disch:=first|omega|rfl) only[sB,Za,Zb,one,reduceCtorEq,Zv,ld25,st25,z0j,ld23,q3,hxl,l0,g11,iz23,Zu];obtain⟨H12,e12⟩:∃H12,H11.put p11 (some (.row (six x ax cx) 25))=H12:=⟨_,rfl⟩
   simp only[e12];have k12:∀n,n≠p11→H12.get n=H11.get n:=fun n hn=>by rw[←e12,get_put,if_neg hn]
   have hx12:HX H H12:=by rw[←e12];exact hx11'.pt (i:=p11) (by omega) g11 _
   have g11:H12.get p11=some (.row (six x ax cx) 25):=by rw[←e12,get_put,if_pos rfl]
   have g3:=(k12 _ (by omega)).trans g3;have g5:=(k12 _ (by omega)).trans g5;have g6:=(k12 _ (by omega)).trans g6;have g7:=(k12 _ (by omega)).trans g7;have g9:=(k12 _ (by omega)).trans g9;have g12:=(k12 _ (by omega)).trans g12;clear e12;have q3:=row6 g3;have l1:=hx12.load hw hld1;refine EvC.reg ?_;simp (config := { maxSteps := 2000000 }) (disch:=first|omega|rfl) only[sB,Za,Zb,one,reduceCtorEq,Zv,ld25,st25,z0j,ld23,q3,hxl,l1,g12,iz23,ZL];have hz:=hx12.pt (i:=p12) (by omega) g12 (some (.row (six y ay cy) 25));exact⟨_,_,ax,cx,ay,cy,rfl,(by simp only[sG,reduceCtorEq]),(by simp only[sG,Za,reduceCtorEq]),(by simp only[sG,Za,reduceCtorEq]),(by simp only[sG,Za,reduceCtorEq]),(by simp only[sG,Za,reduceCtorEq]),(by simp only[sG,Za,reduceCtorEq]),(by simp only[sG,Za,reduceCtorEq]),by rw[get_put,if_neg (by omega)];exact g11,by rw[get_put,if_pos rfl],by rw[get_put,if_neg (by omega)];exact g5,by rw[get_put,if_neg (by omega)];exact g6,by rw[get_put,if_neg (by omega)];exact g7,by rw[get_put,if_neg (by omega)];exact g9,hr0,hr1,hcx,hcy,hz⟩
  ·have eh:headOf t1=t1:=by unfold headOf;rw[if_neg hn]
   have er:restOf t1=atmT sTrue:=by unfold restOf;rw[if_neg hn]
   rw[eh,er];refine EvC.condF (by simp (config := { maxSteps := 2000000 }) only[sB,Za,reduceCtorEq,decide_eq_false hn]) ?_;(try refine EvC.skip ?_);(try simp only[z00,z01]);exact⟨_,_,a1,c1,none,0,rfl,(by simp only[sG,reduceCtorEq]),(by simp only[sG,Za,reduceCtorEq]),(by simp only[sG,Za,reduceCtorEq]),(by simp only[sG,Za,reduceCtorEq]),(by simp only[sG,Za,reduceCtorEq]),(by simp only[sG,Za,reduceCtorEq]),(by simp only[sG,Za,reduceCtorEq]),g11,g12,g5,g6,g7,g9,r1,(z1z (S:=fun _=>False) (by decide)).rep,hc1,z5l,hx11'⟩
 ·rintro st ⟨tm,G,ah,ch,ar,cr,rfl,t0,t5,t6,t7,t9,t11,t12,g11,g12,g5,g6,g7,g9,rh,rr,hch,hcr,hxG⟩;simp only[z00];have bd9:H.next+3≤p9:=by omega
  have bd11:p9 < p11:=by omega
  have bd12:p11 < p12:=by omega
  have bd2:H2.next=H.next+3:=hn2;have bd92:H2.next < p9:=by omega
  clear ep9 ep11 ep12;have wG:=hxG.wf;have q11:=row6 g11;have lG:=wG _ _ g12;generalize headOf t1=h at *;generalize restOf t1=r at *;(repeat refine EvC.seq ?_);refine EvC.reg ?_;simp (config := { maxSteps := 2000000 }) only[sB,Za,ld25,cl40,t0,t11,q11];refine(zf6 (m:=m1) rh hxG hw hch wG).mono ?_;rintro v K1 ⟨kx1,a2,c2,sd2,rfl,r2,he2,hc2⟩;obtain⟨n2,b2,u2,s2,k2,rfl⟩:=he2.cells;have kw1:=kx1.wf;have kn1:=kx1.next;have g5:=kx1.get wG g5;have g6:=kx1.get wG g6;have g7:=kx1.get wG g7;have g9:=kx1.get wG g9;have g11:=kx1.get wG g11;have g12:=kx1.get wG g12;have kx1':=hxG.trans kx1;obtain⟨⟨m2,t2,e2⟩,hS2⟩:∃R,stripS m1 h=R:=⟨_,rfl⟩
  rw[hS2] at r2 he2 hc2 ⊢;simp only at r2 he2 hc2;have ne9:(p9=p11)=False:=eq_false (by omega);have ne9':(p11=p9)=False:=eq_false (by omega);try simp (config := { maxSteps := 2000000 }) (disch:=first|omega|rfl) only[sB,Za,Zb,one,reduceCtorEq,st39,st25,t9,t11,g9,g11,ne9]
  obtain⟨K2,ek2⟩:∃K2,(K1.put p11 (some (.row (six t2 a2 c2) 25))).put p9 (some (.row (saidT n2 b2 u2 s2 k2) 39))=K2:=⟨_,rfl⟩
  simp only[ek2];have kk2:∀n,n≠p11→n≠p9→K2.get n=K1.get n:=fun n h1 h2=>by rw[←ek2,get_put,if_neg h2,get_put,if_neg h1]
  have kx2:HX H K2:=by rw[←ek2];exact(kx1'.pt (i:=p11) (by omega) g11 _).pt (i:=p9) (by omega) (by rw[get_put,if_neg (by omega)];exact g9) _
  have kn2:K2.next=K1.next:=by rw[←ek2];rfl
  have g11:K2.get p11=some (.row (six t2 a2 c2) 25):=by rw[←ek2,get_put,if_neg (by omega),get_put,if_pos rfl]
  have g9:K2.get p9=some (.row (saidT n2 b2 u2 s2 k2) 39):=by rw[←ek2,get_put,if_pos rfl]
  have g5:=(kk2 _ (by omega) (by omega)).trans g5;have g6:=(kk2 _ (by omega) (by omega)).trans g6;have g7:=(kk2 _ (by omega) (by omega)).trans g7;have g12:=(kk2 _ (by omega) (by omega)).trans g12;clear ek2;have kw2:=kx2.wf;have he2:RSaid K2 (Rg G.next K1.next) e2 (saidT n2 b2 u2 s2 k2):=he2.to fun n hn hl=>⟨kk2 n (by have:=hn.1;omega) (by have:=hn.1;omega),hn,by omega⟩
  have q9:=rowS g9;(repeat refine EvC.seq ?_);refine EvC.reg ?_;simp (config := { maxSteps := 2000000 }) only[sB,Za,reduceCtorEq,ld39,cl41,t9,q9];refine(z78 he2 kw2).mono ?_;rintro v K3 ⟨rfl,kx3⟩;have kw3:=kx3.wf;have kn3:=kx3.next;have g5:=kx3.get kw2 g5;have g6:=kx3.get kw2 g6;have g7:=kx3.get kw2 g7;have g9:=kx3.get kw2 g9;have g11:=kx3.get kw2 g11;have g12:=kx3.get kw2 g12;have kx3':=kx2.trans kx3;have he2:RSaid K3 (Rg G.next K1.next) e2 (saidT n2 b2 u2 s2 k2):=he2.to fun n hn hl=>⟨kx3.keep n hl,hn,by omega⟩
  have q7:=z0u g7;have q9:=rowS g9;have q11:=row6 g11;have q12:=row6 g12;have dG:H.next+3≤G.next:=by omega
  have ne5:(p9=H.next+1)=False:=eq_false (by omega);have ne5':(p9=H.next+1+1)=False:=eq_false (by omega);try simp (config := { maxSteps := 2000000 }) only[]
  by_cases ho2:e2=.ok;rotate_left
  ·have hR:readH m1 h r=(Ze,zeroC,e2):=by
    unfold readH;rw[hS2];cases e2 with
    |ok=>exact absurd rfl ho2
    |num n=>rfl
    |ball u=>rfl
   have hnn:noneB e2=false:=by
    cases h:noneB e2 with
    |false=>rfl
    |true=>exact absurd (z7s.1 h) ho2
   repeat' (first|refine EvC.seq ?_|(refine EvC.ret ?_;try simp only[z04,z02])|(refine EvC.reg ?_;simp (config := { maxSteps := 2000000 }) (disch:=first|omega|rfl) only[sB,Za,reduceCtorEq,hnn,Zt,neu'])|(refine EvC.drw (id:=17) [([(0,0),(2,0)],some 3),([(1,0)],some 4),([],none)] ?_ ?_;kernel_rfl;simp (config := { maxSteps := 2000000 }) (disch:=first|omega|rfl) only[sV,sD,sB,Za,Zb,one,reduceCtorEq,cutC,ld32,st32,st39,ld39,t5,t6,t7,t9,q7,q9,g5,g6,neu,neu',ne5,isAlloc,isRead])|(refine EvC.condT ?_ ?_;simp (config := { maxSteps := 2000000 }) (disch:=first|omega|rfl) only[sB,Za,reduceCtorEq,neu'];refine z07 ?_))
   exact z3k (lo:=G.next) (hi:=K1.next) hR (kx3'.bump _) g5 g6 (by simp only[sB,Za,reduceCtorEq];rfl) (by simp only[sG,Za,reduceCtorEq,t5]) (by simp only[sG,Za,reduceCtorEq,t6]) (he2.to fun n hn hl=>⟨rfl,hn,by show n < K3.next+_;omega⟩) (by omega) (by show _≤K3.next+_;omega)
  subst ho2;have hR2:readH m1 h r=readB m2 t2 r:=by unfold readH;rw[hS2]
  rw[hR2];(repeat refine EvC.seq ?_);refine EvC.reg ?_;simp (config := { maxSteps := 2000000 }) only[sB,Za,reduceCtorEq];refine EvC.condF (by simp (config := { maxSteps := 2000000 }) only[sB,Za,reduceCtorEq,show noneB .ok=true from rfl,Zp]) ?_;(try refine EvC.skip ?_);(try simp only[z00,z01]);by_cases k1:t2.kind=1
  ·have hR:readB m2 t2 r=(Ze,zeroC,.ball (atmT sInst)):=by unfold readB;rw[if_pos k1]
   (repeat refine EvC.seq ?_);refine EvC.reg ?_;simp (config := { maxSteps := 2000000 }) only[sB,Za,reduceCtorEq,z0g,ld3,t11,q11,z0k k1];refine EvC.condT (by simp (config := { maxSteps := 2000000 }) only[sB,Za,reduceCtorEq]) ?_;(try refine EvC.skip ?_);(try simp only[z00,z01]);(repeat refine EvC.seq ?_);refine EvC.drw [([],some 1),([(0,0),(2,1)],some 3),([],some 4),([],none)] (by kernel_rfl) ?_;simp (config := { maxSteps := 2000000 }) only[sD,sA,Zb,cl43];have K3w:=kw3;have hb:HX K3 ⟨K3.next+5,K3.t⟩:=(HX.refl K3w).bump 5;refine(zic hb.wf).mono ?_;rintro v K9 ⟨kx9,out,rfl,hsd⟩;obtain⟨en,eb,et,ea,ec,rfl⟩:=hsd.cells;have k99:=hb.trans kx9;have q79:=z0u (k99.get K3w g7);have g5:=k99.get K3w g5;have g6:=k99.get K3w g6;have kn9:K3.next+5≤K9.next:=kx9.next
   repeat' (first|(refine EvC.ret ?_;try simp only[z04,z02])|(refine z0h ?_;simp (config := { maxSteps := 2000000 }) (disch:=first|omega|rfl) only[sV,sD,sB,Za,Zb,one,reduceCtorEq,ld32,st32,st39,t5,t6,t7,q7,q79,g5,g6,neu,neu',isAlloc,isRead]))
   exact z3k (lo:=K3.next+5) (hi:=K9.next) hR (kx3'.trans k99) g5 g6 (by simp only[sB,Za,reduceCtorEq];rfl) (by simp only[sG,Za,reduceCtorEq,t5]) (by simp only[sG,Za,reduceCtorEq,t6]) hsd (by omega) (Zg _)
  (repeat refine EvC.seq ?_);refine EvC.reg ?_;simp (config := { maxSteps := 2000000 }) only[sB,Za,reduceCtorEq,z0g,ld3,t11,q11,z0m k1];refine EvC.condF (by simp (config := { maxSteps := 2000000 }) only[sB,Za,reduceCtorEq]) ?_;(try refine EvC.skip ?_);(try simp only[z00,z01]);(repeat refine EvC.seq ?_);refine EvC.reg ?_;simp (config := { maxSteps := 2000000 }) only[sB,Za,reduceCtorEq,ld25,cl44,t11,q11];refine(zg6 (r2.mono kx3' hw) kw3).mono ?_;rintro v K4 ⟨rfl,kx4⟩;have K4w:=kx4.wf;have kn4:=kx4.next;have kx4':=kx3'.trans kx4;have g5:=kx4.get kw3 g5;have g6:=kx4.get kw3 g6;have g7:=kx4.get kw3 g7;have g11:=kx4.get kw3 g11;have g12:=kx4.get kw3 g12;have q7:=z0u g7;have q11:=row6 g11;have q12:=row6 g12;try simp (config := { maxSteps := 2000000 }) only[]
  by_cases k3:isNum t2
  ·have hR:readB m2 t2 r=(Ze,zeroC,.ball (typeT sCallable t2)):=by unfold readB;rw[if_neg k1,if_pos k3]
   refine EvC.condT (by simp (config := { maxSteps := 2000000 }) only[sB,Za,reduceCtorEq,decide_eq_true k3]) ?_;(try refine EvC.skip ?_);(try simp only[z00,z01]);(repeat refine EvC.seq ?_);refine EvC.drw [([(1,0)],some 2),([(0,0),(3,1)],some 4),([],some 5),([],none)] (by kernel_rfl) ?_;simp (config := { maxSteps := 2000000 }) only[sD,sB,Za,Zb,reduceCtorEq,ld25,cl28,isAlloc,isRead,t11,q11];have hb:HX K4 ⟨K4.next+6,K4.t⟩:=(HX.refl K4w).bump 6;refine(z8l (s:=sCallable) (by decide) ((r2.mono kx4' hw).mono hb K4w) (few6 hc2) hb.wf).mono ?_;rintro v K9 ⟨kx9,out,rfl,hsd⟩;obtain⟨en,eb,et,ea,ec,rfl⟩:=hsd.cells;have k99:=hb.trans kx9;have q79:=z0u (k99.get K4w g7);have g5:=k99.get K4w g5;have g6:=k99.get K4w g6;have kn9:K4.next+6≤K9.next:=kx9.next
   repeat' (first|(refine EvC.ret ?_;try simp only[z04,z02])|(refine z0h ?_;simp (config := { maxSteps := 2000000 }) (disch:=first|omega|rfl) only[sV,sD,sB,Za,Zb,one,reduceCtorEq,ld32,st32,st39,t5,t6,t7,q7,q79,g5,g6,neu,neu',isAlloc,isRead]))
   exact z3k (lo:=K4.next+6) (hi:=K9.next) hR (kx4'.trans k99) g5 g6 (by simp only[sB,Za,reduceCtorEq];rfl) (by simp only[sG,Za,reduceCtorEq,t5]) (by simp only[sG,Za,reduceCtorEq,t6]) hsd (by omega) (Zg _)
  refine EvC.condF (by simp (config := { maxSteps := 2000000 }) only[sB,Za,reduceCtorEq,decide_eq_false k3]) ?_;(try refine EvC.skip ?_);(try simp only[z00,z01]);have hR3:readB m2 t2 r=match bodyF (SizeOf.sizeOf r+1) r with
    |none=>(Ze,zeroC,.ball (typeT sCallable r))
    |some b=>if 400 < cnt t2 0+cnt (toldB b) 0 then (Ze,zeroC,.ball (resT sClause)) else (m2,madeC t2 r,.ok):=by
   unfold readB;rw[if_neg k1,if_neg k3];rfl
  (repeat refine EvC.seq ?_);refine EvC.reg ?_;simp (config := { maxSteps := 2000000 }) only[sB,Za,reduceCtorEq,ld25,cl45,t12,q12];refine(z77 _ r _ K4 (Zf _) (rr.mono kx4' hw) hcr K4w).mono ?_;rintro v K5 ⟨kx5,outB,bd,rfl,hob,hbd⟩;obtain⟨ta,tc,sa,sc,rfl⟩:=hob.rep.eight;have kw5:=kx5.wf;have kn5:=kx5.next;try simp (config := { maxSteps := 2000000 }) (disch:=first|omega|rfl) only[sB,dAlloc,Za,Zb,one,reduceCtorEq,zr30,st30]
  obtain⟨K6,ek6,kx6,g13,kn6,K6w⟩:=z0l kw5 (.row zero8 30) (.row (eightT bd.kind bd.term ta tc sa bd.sub.length sc) 30);simp only[ek6];clear ek6;have kx46:=kx5.trans kx6;have kx6':=kx4'.trans kx46;have g5:=kx46.get K4w g5;have g6:=kx46.get K4w g6;have g7:=kx46.get K4w g7;have g11:=kx46.get K4w g11;have g12:=kx46.get K4w g12;have q7:=z0u g7;have q11:=row6 g11;have q12:=row6 g12;have q13:=row8 g13;cases hb1:bodyF (SizeOf.sizeOf r+1) r with
  |none =>
   rw[hb1] at hR3;(repeat refine EvC.seq ?_);refine EvC.reg ?_;simp (config := { maxSteps := 2000000 }) only[sB,Za,reduceCtorEq];refine EvC.condT (by simp (config := { maxSteps := 2000000 }) only[sB,Za,reduceCtorEq,Option.isSome_none,Zt]) ?_;(try refine EvC.skip ?_);(try simp only[z00,z01]);(repeat refine EvC.seq ?_);refine EvC.drw [([(1,0)],some 2),([(0,0),(3,1)],some 4),([],some 5),([],none)] (by kernel_rfl) ?_;simp (config := { maxSteps := 2000000 }) only[sD,sB,Za,Zb,reduceCtorEq,ld25,cl28,isAlloc,isRead,t12,q12];have hb:HX K6 ⟨K6.next+6,K6.t⟩:=(HX.refl K6w).bump 6;refine(z8l (s:=sCallable) (by decide) ((rr.mono kx6' hw).mono hb K6w) (few6 hcr) hb.wf).mono ?_;rintro v K9 ⟨kx9,out,rfl,hsd⟩;obtain⟨en,eb,et,ea,ec,rfl⟩:=hsd.cells;have k99:=hb.trans kx9;have q79:=z0u (k99.get K6w g7);have g5:=k99.get K6w g5;have g6:=k99.get K6w g6;have kn9:K6.next+6≤K9.next:=kx9.next
   repeat' (first|(refine EvC.ret ?_;try simp only[z04,z02])|(refine z0h ?_;simp (config := { maxSteps := 2000000 }) (disch:=first|omega|rfl) only[sV,sD,sB,Za,Zb,one,reduceCtorEq,ld32,st32,st39,t5,t6,t7,q7,q79,g5,g6,neu,neu',isAlloc,isRead]))
   exact z3k (lo:=K6.next+6) (hi:=K9.next) hR3 (kx6'.trans k99) g5 g6 (by simp only[sB,Za,reduceCtorEq];rfl) (by simp only[sG,Za,reduceCtorEq,t5]) (by simp only[sG,Za,reduceCtorEq,t6]) hsd (by omega) (Zg _)
  |some b =>
   rw[hb1] at hR3;simp only at hR3;obtain rfl:=hbd b hb1;(repeat refine EvC.seq ?_);refine EvC.reg ?_;simp (config := { maxSteps := 2000000 }) only[sB,Za,reduceCtorEq];refine EvC.condF (by simp (config := { maxSteps := 2000000 }) only[sB,Za,reduceCtorEq,Option.isSome_some,Zp]) ?_;(try refine EvC.skip ?_);(try simp only[z00,z01]);(repeat refine EvC.seq ?_);refine EvC.drw [([(0,0)],some 1),([(2,0)],some 3),([],some 4),([(5,3),(6,3)],none)] (by kernel_rfl) ?_;simp (config := { maxSteps := 2000000 }) only[sD,sB,Za,Zb,reduceCtorEq,ld25,cl46,isAlloc,isRead,t11,q11];have hfew:=(z54 (z0e.1 hcr).2 hb1).up (m:=1000000) (by decide);have hb6:HX K6 ⟨K6.next+7,K6.t⟩:=(HX.refl K6w).bump 7;refine(z1u _ _ _ ((r2.mono kx6' hw).mono hb6 K6w) hb6.wf).mono ?_;rintro v K7 ⟨rfl,kx7⟩;have k67:=hb6.trans kx7;have q137:=row8 (k67.get K6w g13);have kw7:=kx7.wf
   repeat' (first|(refine z0h ?_;simp (config := { maxSteps := 2000000 }) only[sV,sD,sB,Za,reduceCtorEq,ld30,cl47,q13,q137,isAlloc,isRead]))
   have hob7:OB K7 30 25 (Rg K4.next K5.next) bd _:=(hob.keep kx6).keep k67;refine(z8k (Zf _) hob7.bi hfew (fun n hn=>by have:=hn.2;have:=k67.next;have:=kx6.next;omega) kw7).mono ?_;rintro v K8 ⟨kx8,outT,rfl,hrT⟩
   repeat' (first|(refine z0h ?_;simp (config := { maxSteps := 2000000 }) only[sD,sB,Za,reduceCtorEq,cl46]))
   refine(z1u _ _ _ hrT.rep kx8.wf).mono ?_;rintro v K9 ⟨rfl,kx9⟩
   repeat' (first|(refine z0h ?_;simp (config := { maxSteps := 2000000 }) only[sD,sB,Za,Zb,reduceCtorEq,isAlloc,isRead]))
   have k69:=(k67.trans kx8).trans kx9;have K9w:=kx9.wf;have kx9':=kx6'.trans k69;have kn9:=k69.next;have g5:=k69.get K6w g5;have g6:=k69.get K6w g6;have g7:=k69.get K6w g7;have g11:=k69.get K6w g11;have g12:=k69.get K6w g12;have q7:=z0u g7;have q11:=row6 g11;have q12:=row6 g12;have cp1:=z2i t2;have cp2:=z2i (toldB bd);by_cases h400:400 < cnt t2 0+cnt (toldB bd) 0
   ·have hR4:readB m2 t2 r=(Ze,zeroC,.ball (resT sClause)):=by rw[hR3,if_pos h400]
    have hd:decide ((cnt t2 0:Int)+(cnt (toldB bd) 0:Int) > 400)=true:=decide_eq_true (by omega);refine EvC.condT (by simp (config := { maxSteps := 2000000 }) (disch:=first|omega|rfl) only[sB,Za,reduceCtorEq,z0b,hd]) ?_;(try refine EvC.skip ?_);(try simp only[z00,z01]);(repeat refine EvC.seq ?_);refine EvC.drw [([],some 1),([(0,0),(2,1)],some 3),([],some 4),([],none)] (by kernel_rfl) ?_;simp (config := { maxSteps := 2000000 }) only[sD,sA,Zb,cl48];have hb:HX K9 ⟨K9.next+5,K9.t⟩:=(HX.refl K9w).bump 5;refine(zmg (s:=sClause) (by decide) hb.wf).mono ?_;rintro v L9 ⟨lx9,out,rfl,hsd⟩;obtain⟨en,eb,et,ea,ec,rfl⟩:=hsd.cells;have k99:=hb.trans lx9;have q79:=z0u (k99.get K9w g7);have g5:=k99.get K9w g5;have g6:=k99.get K9w g6;have ln9:K9.next+5≤L9.next:=lx9.next
    repeat' (first|(refine EvC.ret ?_;try simp only[z04,z02])|(refine z0h ?_;simp (config := { maxSteps := 2000000 }) (disch:=first|omega|rfl) only[sV,sD,sB,Za,Zb,one,reduceCtorEq,ld32,st32,st39,t5,t6,t7,q7,q79,g5,g6,neu,neu',isAlloc,isRead]))
    exact z3k (lo:=K9.next+5) (hi:=L9.next) hR4 (kx9'.trans k99) g5 g6 (by simp only[sB,Za,reduceCtorEq];rfl) (by simp only[sG,Za,reduceCtorEq,t5]) (by simp only[sG,Za,reduceCtorEq,t6]) hsd (by omega) (Zg _)
   have hR4:readB m2 t2 r=(m2,madeC t2 r,.ok):=by rw[hR3,if_neg h400]
   have hd:decide ((cnt t2 0:Int)+(cnt (toldB bd) 0:Int) > 400)=false:=decide_eq_false (by omega);refine EvC.condF (by simp (config := { maxSteps := 2000000 }) (disch:=first|omega|rfl) only[sB,Za,reduceCtorEq,z0b,hd]) ?_;(try refine EvC.skip ?_);(try simp only[z00,z01]);(repeat refine EvC.seq ?_);refine EvC.reg ?_;simp (config := { maxSteps := 2000000 }) (disch:=first|omega|rfl) only[sB,Za,Zb,Value.cells,one,reduceCtorEq,Zk,layC,ld25,z6r,cl49,t11,t12,q11,q12];obtain⟨L1,eL1,lx1,gL1,ln1,lw1⟩:=new1 K9w (.row (six t2 a2 c2++six r ar cr) 25);have eL1':=eL1;simp only[six,ZK,List.nil_append] at eL1';simp only[eL1'];clear eL1 eL1';have lx1':=kx9'.trans lx1;have hff:∀u∈[t2,r],Fine u:=fun u hu=>by
    rcases List.mem_cons.1 hu with rfl|hu
    ·exact(z0e.1 hc2).2
    ·rw[List.mem_singleton.1 hu];exact(z0e.1 hcr).2
   have ho2:(occL [t2,r]).length≤8000:=by
    have:=zci hc2;have:=zci hcr;simp only[occL,Zw,List.length_nil];omega
   refine(zmu (RepL.two (r2.mono lx1' hw) (rr.mono lx1' hw) gL1) hff (Zo ho2 (by simp [most])) (by simp [most]) lw1).mono ?_;rintro v L2 ⟨ap,kp,rfl,hfl,lx2⟩;have hpo:(occL (plainL [t2,r])).length≤8000:=by rw[z3b,zcp hff,Zq];exact ho2
   have hpc:chkL (plainL [t2,r])=0:=by
    have hp:=fun n=>(z3i (uniq (occL [t2,r])) n).1
    rw[z3b];simp [chkL,z69 hp hc2,z69 hp hcr]
   have hmc:madeC t2 r=⟨(plainL [t2,r]).getD 0 zeroT,(readyS ((plainL [t2,r]).getD 1 zeroT)).1,(uniq (occL (plainL [t2,r]))).length⟩:=rfl;have hby:bodyF (SizeOf.sizeOf ((plainL [t2,r]).getD 1 zeroT)+1) ((plainL [t2,r]).getD 1 zeroT)=some (readyS ((plainL [t2,r]).getD 1 zeroT)).1 :=
    zmv (f:=plcZ (uniq (occL [t2,r]))) (fun n=>(z3i _ n).1) hcr hb1 (by omega)
   obtain⟨u0,u1,hpl⟩:∃u0 u1,plainL [t2,r]=[u0,u1]:=⟨_,_,rfl⟩
   have hu1:checkS u1=0:=z6w hpc u1 (by rw[hpl];simp);rw[hpl] at hfl hpo hpc hmc hby ⊢;have hby:bodyF (SizeOf.sizeOf u1+1) u1=some (readyS u1).1:=hby;obtain⟨cellsp,rlp⟩:=hfl.rep;have lw2:=lx2.wf;have ln2:=lx2.next;obtain⟨bp,op,ax0,cx0,hap,ld0,rs0⟩:=hfl.elS (i:=0) lw2 (by simp);obtain⟨bp',op',ax1,cx1,hap',ld1,rs1⟩:=hfl.elS (i:=1) lw2 (by simp);subst hap;cases hap';simp only[Zu,Nat.add_zero,ZL,List.getElem_cons_zero,List.getElem_cons_succ] at ld0 ld1 rs0 rs1;try simp (config := { maxSteps := 2000000 }) only[sA,Zb]
   (repeat refine EvC.seq ?_);refine EvC.reg ?_;simp (config := { maxSteps := 2000000 }) (disch:=first|omega|rfl) only[sB,Za,reduceCtorEq,Zv,ld25,cl45,ld1,iz23,ZL];refine(z77 _ u1 _ L2 (Zf _) rs1.rep hu1 lw2).mono ?_;rintro v L3 ⟨lx3,outC,bc,rfl,hoC,hbc⟩;obtain rfl:=hbc _ hby;obtain⟨bta,btc,bsa,bsc,rfl⟩:=hoC.rep.eight;have lw3:=lx3.wf;have ln3:=lx3.next;try simp (config := { maxSteps := 2000000 }) (disch:=first|omega|rfl) only[sB,dAlloc,Za,Zb,one,reduceCtorEq,zr30,st30]
   obtain⟨L4,eL4,lx4,g16,ln4,lw4⟩:=z0l lw3 (.row zero8 30) (.row (eightT (readyS u1).1.kind (readyS u1).1.term bta btc bsa (readyS u1).1.sub.length bsc) 30);simp only[eL4];clear eL4;have l24:=lx3.trans lx4;(repeat refine EvC.seq ?_);refine EvC.drw [([(5,0)],some 6),([(0,0),(1,0),(2,0),(3,0),(4,0),(7,1),(8,1),(10,1)],some 11),([(9,0)],some 12),([],none)] (by kernel_rfl) ?_;simp (config := { maxSteps := 2000000 }) only[sD,sB,Za,Zb,reduceCtorEq,cl50,isAlloc,isRead];have lb:HX L4 ⟨L4.next+13,L4.t⟩:=(HX.refl lw4).bump 13;refine(zbe ((rlp.mono l24 lw2).mono lb lw4) (Zo hpo (by simp [most])) lb.wf).mono ?_;rintro v L5 ⟨hil,lx5⟩;obtain⟨au,ku,rfl,-,-⟩:=hil.slice;have l45:=lb.trans lx5;have l25:=l24.trans l45;have ln5:L4.next+13≤L5.next:=lx5.next;have lw5:=lx5.wf;have ld04:=l24.load lw2 ld0;have ld05:=l25.load lw2 ld0;have q16:=row8 g16;have q165:=row8 (l45.get lw4 g16);have g5:=l25.get lw2 (lx2.get lw1 (lx1.get K9w g5));have g6:=l25.get lw2 (lx2.get lw1 (lx1.get K9w g6));have nU:(uniq (occL [u0,u1])).length≤8000:=Zo (z5h _) hpo
   repeat' (first|(refine EvC.ret ?_)|(refine z0h ?_;simp (config := { maxSteps := 2000000 }) (disch:=first|omega|rfl) only[sV,sD,sB,Za,Zb,Value.cells,one,reduceCtorEq,Zk,layC,Zv,ld25,bd39,st32,st39,ld30,ln77,bd32,t0,t5,t6,ld04,ld05,q16,q165,g5,g6,iz23,Zu,neu,neu',isAlloc,isRead]))
   have hxf:=lx1'.trans (lx2.trans l25);have hz:=(hxf.pt (i:=H.next+1) (by omega) g5 (some (.row (fift u0 ax0 cx0 (readyS u1).1.kind (readyS u1).1.term bta btc bsa (readyS u1).1.sub.length bsc (uniq (occL [u0,u1])).length) 32))).pt (i:=H.next+1+1) (by omega) (by rw[get_put,if_neg (by omega)];exact g6) (some (.row said0 39));rw[hR4,hmc];refine z58 rfl (by simp only[sG,Za,reduceCtorEq]) (by simp only[sB,Za,reduceCtorEq,t5];rfl) (by simp only[sB,Zb,cutC,ld32,neu];rfl) (by simp only[sB,Za,reduceCtorEq,t6];rfl) (by simp only[sB,Za,Zb,cutC,ld39]) ⟨hz,_,_,rfl,⟨_,_,_,_,_,_,rfl,?_,?_⟩,rfl⟩
   ·refine rs0.to fun n hn hl=>?_
    have a1:=hn.1;have a2:=l25.next;exact⟨by rw[get_put,if_neg (by omega),get_put,if_neg (by omega)];exact l25.keep n hl,⟨by omega,by rw[z06,z06];omega⟩,by rw[z06,z06];omega⟩
   ·refine hoC.to (fun n hn hl=>?_) fun n hn=>?_
    ·have a1:=hn.1;have l35:=lx4.trans l45;have a2:=l35.next;exact⟨by rw[get_put,if_neg (by omega),get_put,if_neg (by omega)];exact l35.keep n hl,by rw[z06,z06];omega⟩
    ·have a1:=hn.1;have a3:=hn.2;have a2:=(lx4.trans l45).next;exact⟨by omega,by rw[z06,z06];omega⟩
theorem zie {H:Heap}(hw:H.wf) (A B C D:Blk):∃H2,(((H.new (some A)).new (some B)).put H.next (some C)).put (H.next+1) (some D)=H2∧HX H H2∧H2.get H.next=some C∧H2.get (H.next+1)=some D∧H2.next=H.next+2∧H2.wf:=by
 obtain⟨H2,rfl,hx,h1,h2,h3,h4⟩:=new2 hw A B;have hy:=(hx.pt (i:=H.next) (Zg _) h1 (some C)).pt (i:=H.next+1) (by omega) (by rw[get_put,if_neg (by omega)];exact h2) (some D);exact⟨_,rfl,hy,by rw[get_put,if_neg (by omega),get_put,if_pos rfl],by rw[get_put,if_pos rfl],rfl,hy.wf⟩
theorem z7c {H:Heap}:RepT H zeroT (six zeroT none 0):=(RepS.leaf (H:=H) (S:=fun _=>True) (t:=zeroT) (a:=none) (c:=0) z52 rfl (Zs _) (fun _=>rfl)).rep
theorem Good.of {b:Bdy}(h:(readyS (toldB b)).2=.ok) (e:(readyS (toldB b)).1=b):Good b:=by
 have:=zjo h
 rwa [e] at this
theorem Good.szF {b:Bdy}(h:Good b):szF b 0≤20000:=by
 have:=h.size;have:=zq8 _ b 0 (Zf _);omega
noncomputable def termV (b:Bdy):Tm:=open Classical in if Good b then toldB b else zeroT
noncomputable def termE (b:Bdy):Int:=open Classical in if Good b then 0 else 1
set_option maxHeartbeats 8000000 in
theorem zcv {b:Bdy}{cs:List Value}{H:Heap}(hf:FewB 1000000 b) (r:RepB H b cs) (hw:H.wf) :
  EvF Tryz.prog okT 16 [.agg ⟨cs⟩] H fun v H'=>HX H H'∧∃out,v=.tuple ⟨[.agg ⟨out⟩,.int .i64 (termE b)]⟩∧OT H' (Rg H.next H'.next) (termV b) out:=by
 have fin:∀{H':Heap},¬Good b→HX H H'→HX H H'∧∃out,Value.tuple ⟨[.agg ⟨six zeroT none 0⟩,.int .i64 1]⟩=.tuple ⟨[.agg ⟨out⟩,.int .i64 (termE b)]⟩∧OT H' (Rg H.next H'.next) (termV b) out:=fun hn hx=>⟨hx,_,by rw[termE,if_neg hn],by rw[termV,if_neg hn];exact⟨RepS.leaf z52 rfl (Zs _) fun _=>rfl,.inl rfl⟩⟩
 obtain⟨ta,tc,a,c,rfl⟩:=r.eight;refine EvF.enter rfl Tryz.func16 (by decide) rfl ?_;(repeat refine EvC.seq ?_);refine EvC.reg ?_;simp only[sB,initTm,dBox,dAlloc,Value.cells,one,zr25];obtain⟨H2,e2,hx2,g1,g2,hn2,hw2⟩:=new2 hw (.row (eightT b.kind b.term ta tc a b.sub.length c) 30) (.row zero6 25);simp only[e2];clear e2;have q1:=row8 g1;(repeat refine EvC.seq ?_);refine EvC.reg ?_;simp only[sB,Za,reduceCtorEq,ld30,cl54,q1];refine(zmq (n:=0) (Zf _) (r.mono hx2 hw) (by decide) hw2).mono ?_;rintro v H3 ⟨hx3,rfl⟩;have g1:=hx3.get hw2 g1;have g2:=hx3.get hw2 g2;have hx:=hx2.trans hx3;have w3:=hx.wf;have q1:=row8 g1;try simp only[sA]
 by_cases hs:20000 < szF b 0
 ·have hd:decide (((szF b 0:Nat):Int) > 20000)=true:=decide_eq_true (by omega)
  repeat' (first|refine EvC.seq ?_|(refine EvC.ret ?_;try simp only[z04,z02])|(refine EvC.reg ?_;simp only[sB,Za,Zb,Value.cells,one,reduceCtorEq,layC,bd25,st25,hd,g2])|(refine EvC.condT ?_ ?_;simp only[sB,Za,reduceCtorEq,hd];refine z07 ?_))
  exact z09 rfl (by simp only[sB,Za,reduceCtorEq];rfl) (by simp only[sB,Zb,cutC,ld25];rfl) (by simp only[sG,Za,reduceCtorEq]) (fin (fun h=>absurd h.szF (by omega)) (hx.pt (i:=H.next+1) (by omega) g2 _))
 have hd:decide (((szF b 0:Nat):Int) > 20000)=false:=decide_eq_false (by omega);refine EvC.condF (by simp only[sB,Za,reduceCtorEq,hd]) ?_;(try refine EvC.skip ?_);(try simp only[z00,z01]);(repeat refine EvC.seq ?_);refine EvC.reg ?_;simp only[sB,dAlloc,Za,reduceCtorEq,zr25,ld30,cl36,q1];have r3:=r.mono hx hw;refine(zcl (Zf _) (r3.bi w3) hf (fun n hn=>hn) w3).mono ?_;rintro v H4 ⟨hx4,out,rfl,hrT⟩;obtain⟨ao,co,cellso,rfl,-⟩:=hrT.rep.six;have w4:=hx4.wf;have g1:=hx4.get w3 g1;have g2:=hx4.get w3 g2;try simp only[sB,Zb,one,st25]
 obtain⟨H5,e5,hx5,g4,hn5,w5⟩:=z0l w4 (.row zero6 25) (.row (six (toldB b) ao co) 25);simp only[e5];clear e5;have g1:=hx5.get w4 g1;have g2:=hx5.get w4 g2;have q4:=row6 g4;have rt5:RepT H5 (toldB b) _:=hrT.rep.mono hx5 w4;(repeat refine EvC.seq ?_);refine EvC.reg ?_;simp only[sB,Za,reduceCtorEq,ld25,cl26,q4];refine(z9v rt5 w5).mono ?_;rintro v H6 ⟨hx6,outB,ev,rfl,hoB,heB⟩;obtain⟨bta,btc,bsa,bsc,rfl⟩:=hoB.rep.eight;have w6:=hx6.wf;have g1:=hx6.get w5 g1;have g2:=hx6.get w5 g2;have g4:=hx6.get w5 g4;try simp only[sB,dAlloc,Za,Zb,one,reduceCtorEq,zr30,st30]
 obtain⟨H7,e7,hx7,g5,hn7,w7⟩:=z0l w6 (.row zero8 30) (.row (eightT (readyS (toldB b)).1.kind (readyS (toldB b)).1.term bta btc bsa (readyS (toldB b)).1.sub.length bsc) 30);simp only[e7];clear e7;have g1:=hx7.get w6 g1;have g2:=hx7.get w6 g2;have g4:=hx7.get w6 g4;have q1:=row8 g1;have q5:=row8 g5;have k57:=hx6.trans hx7;have k37:=(hx4.trans hx5).trans k57;by_cases hok:(readyS (toldB b)).2=.ok;rotate_left
 ·obtain⟨T0,x0,rfl⟩:=heB.rep.some hok
  repeat' (first|refine EvC.seq ?_|(refine EvC.ret ?_;try simp only[z04,z02])|(refine EvC.reg ?_;simp only[sB,Za,Zb,Value.cells,one,reduceCtorEq,layC,bd25,st25,zex,g2])|(refine EvC.condT ?_ ?_;simp only[sB,Za,reduceCtorEq];refine z07 ?_))
  exact z09 rfl (by simp only[sB,Za,reduceCtorEq];rfl) (by simp only[sB,Zb,cutC,ld25];rfl) (by simp only[sG,Za,reduceCtorEq]) (fin (fun h=>hok (by rw[h.ready])) ((hx.trans k37).pt (i:=H.next+1) (by omega) g2 _))
 rw[hok] at heB;obtain rfl:ev=.nilIface:=heB.rep;(repeat refine EvC.seq ?_);refine EvC.reg ?_;simp only[sB,Za,reduceCtorEq,ld30,cl55,zbb,q1,q5];refine(z7a (Zf _) (hoB.rep.mono hx7 w6) (r3.mono k37 w3) w7).mono ?_;rintro v H8 ⟨rfl,hx8⟩;have g2:=hx8.get w7 g2;have g4:=hx8.get w7 g4;have q4:=row6 g4;have w8:=hx8.wf;have k58:=k57.trans hx8;by_cases heq:(readyS (toldB b)).1=b;rotate_left
 ·repeat' (first|refine EvC.seq ?_|(refine EvC.ret ?_;try simp only[z04,z02])|(refine EvC.reg ?_;simp only[sB,Za,Zb,Value.cells,one,reduceCtorEq,layC,bd25,st25,g2])|(refine z0i ?_;simp only[sB,Za,reduceCtorEq,z79 heq,Zt])|(refine EvC.condT ?_ ?_;simp only[sB,Za,reduceCtorEq];refine z07 ?_))
  exact z09 rfl (by simp only[sB,Za,reduceCtorEq];rfl) (by simp only[sB,Zb,cutC,ld25];rfl) (by simp only[sG,Za,reduceCtorEq]) (fin (fun h=>heq (by rw[h.ready])) (((hx.trans k37).trans hx8).pt (i:=H.next+1) (by omega) g2 _))
 have hg:=Good.of hok heq
 repeat' (first|refine EvC.seq ?_|(refine EvC.skip ?_;try simp only[z00])|(refine EvC.reg ?_;simp only[sB,Za,reduceCtorEq,ld25,cl56,q4])|(refine z0i ?_;simp only[sB,Za,reduceCtorEq,zaa heq,Zp,Zd])|(refine EvC.condF ?_ ?_;simp only[sB,Za,reduceCtorEq];refine z07 ?_))
 refine(z9t (rt5.mono k58 w5) hg.check w8).mono ?_;rintro v H9 ⟨hx9,outO,rfl,hot⟩;obtain⟨a9,c9,zhm,rfl,-⟩:=hot.rep.six;have g2:=hx9.get w8 g2;have k39:=(k37.trans hx8).trans hx9;have hx9':=hx.trans k39;have n3:=hx3.next;have n8:=(k37.trans hx8).next
 repeat' (first|(refine EvC.ret ?_)|(refine z0i ?_;simp only[sB,Zb,one,st25,g2]))
 have hz:=hx9'.pt (i:=H.next+1) (by omega) g2 (some (.row (six (toldB b) a9 c9) 25));refine z09 rfl (by simp only[sB,Za,reduceCtorEq];rfl) (by simp only[sB,Zb,cutC,ld25];rfl) (by simp only[sB,Za,reduceCtorEq];rfl) ⟨hz,_,by rw[termE,if_pos hg],?_⟩;rw[termV,if_pos hg];refine hot.to fun n hn hl=>?_
 have a1:=hn.1;exact⟨by rw[get_put,if_neg (by omega)],⟨by omega,by rw[z06];exact hl⟩,by rw[z06];exact hl⟩
set_option maxHeartbeats 8000000 in
theorem zif {b:Bdy}{cs:List Value}{H:Heap}(hf:FewB 1000000 b) (r:RepB H b cs) (hw:H.wf) :
  EvF Tryz.prog okT 17 [.agg ⟨cs⟩] H fun v H'=>HX H H'∧∃out,v=.tuple ⟨[.agg ⟨out⟩,.int .i64 (termE b)]⟩∧RepT H' (termV b) out:=by
 obtain⟨ta,tc,a,c,rfl⟩:=r.eight;refine EvF.enter rfl Tryz.func17 (by decide) rfl ?_;(repeat refine EvC.seq ?_);refine EvC.reg ?_;simp only[sB,initTm,dBox,dAlloc,Value.cells,one,zr25];obtain⟨H2,e2,hx2,g1,g2,hn2,hw2⟩:=new2 hw (.row (eightT b.kind b.term ta tc a b.sub.length c) 30) (.row zero6 25);simp only[e2];clear e2;have q1:=row8 g1;(repeat refine EvC.seq ?_);refine EvC.reg ?_;simp only[sB,Za,reduceCtorEq,ld30,cl57,q1];refine(zmr (n:=0) (Zf _) (r.mono hx2 hw) (by decide) hw2).mono ?_;rintro v H3 ⟨hx3,rfl⟩;have g1:=hx3.get hw2 g1;have g2:=hx3.get hw2 g2;have hx:=hx2.trans hx3;have w3:=hx.wf;have q1:=row8 g1;try simp only[sA]
 by_cases hs:20000 < szF b 0
 ·have hn:¬Good b:=fun h=>absurd h.szF (by omega)
  have hd:decide (((szF b 0:Nat):Int) > 20000)=true:=decide_eq_true (by omega)
  repeat' (first|refine EvC.seq ?_|(refine EvC.ret ?_;try simp only[z04,z02])|(refine EvC.reg ?_;simp only[sB,Za,Zb,Value.cells,one,reduceCtorEq,layC,bd25,st25,hd,g2])|(refine EvC.condT ?_ ?_;simp only[sB,Za,reduceCtorEq,hd];refine z07 ?_))
  refine z09 rfl (by simp only[sB,Za,reduceCtorEq];rfl) (by simp only[sB,Zb,cutC,ld25];rfl) (by simp only[sB,Za,reduceCtorEq];rfl) ⟨hx.pt (i:=H.next+1) (by omega) g2 _,_,by rw[termE,if_neg hn],?_⟩;rw[termV,if_neg hn];exact z7c
 have hd:decide (((szF b 0:Nat):Int) > 20000)=false:=decide_eq_false (by omega);refine EvC.condF (by simp only[sB,Za,reduceCtorEq,hd]) ?_;(try refine EvC.skip ?_);(try simp only[z00,z01]);(repeat refine EvC.seq ?_);refine EvC.reg ?_;simp only[sB,dAlloc,Za,reduceCtorEq,zr25,ld30,cl47,q1];have r3:=r.mono hx hw;refine(z8k (Zf _) (RepBI.to (S':=fun n=>n < H.next) (r.bi hw) fun n hn hl=>⟨hx.keep n hl,hn,Zh hl hx.next⟩) hf (fun n hn=>Zh hn hx.next) w3).mono ?_;rintro v H4 ⟨hx4,out,rfl,hrT⟩;obtain⟨ao,co,cellso,rfl,-⟩:=hrT.rep.six;have w4:=hx4.wf;have g1:=hx4.get w3 g1;have g2:=hx4.get w3 g2;try simp only[sB,Zb,one,st25]
 obtain⟨H5,e5,hx5,g4,hn5,w5⟩:=z0l w4 (.row zero6 25) (.row (six (toldB b) ao co) 25);simp only[e5];clear e5;have g1:=hx5.get w4 g1;have g2:=hx5.get w4 g2;have q4:=row6 g4;have rt5:RepT H5 (toldB b) _:=hrT.rep.mono hx5 w4;(repeat refine EvC.seq ?_);refine EvC.reg ?_;simp only[sB,Za,reduceCtorEq,ld25,cl58,q4];refine(zmh rt5 w5).mono ?_;rintro v H6 ⟨hx6,outB,sd,rfl,hoB,hsd⟩;obtain⟨bta,btc,bsa,bsc,rfl⟩:=hoB.rep.eight;obtain⟨en,ebb,et,sea,sec,rfl⟩:=hsd.cells;have w6:=hx6.wf;have g1:=hx6.get w5 g1;have g2:=hx6.get w5 g2;have g4:=hx6.get w5 g4;try simp only[sB,dAlloc,Za,Zb,one,reduceCtorEq,zr30,zr39,st30,st39,neu,neu']
 obtain⟨H7,e7,hx7,g5,g6,hn7,w7⟩:=zie w6 (.row zero8 30) (.row said0 39) (.row (eightT (readyS (toldB b)).1.kind (readyS (toldB b)).1.term bta btc bsa (readyS (toldB b)).1.sub.length bsc) 30) (.row (saidT en ebb et sea sec) 39);simp only[e7];clear e7;have g1:=hx7.get w6 g1;have g2:=hx7.get w6 g2;have g4:=hx7.get w6 g4;have q1:=row8 g1;have q5:=row8 g5;have k57:=hx6.trans hx7;have k37:=(hx4.trans hx5).trans k57;(repeat refine EvC.seq ?_);refine EvC.reg ?_;simp only[sB,Za,reduceCtorEq,ld30,cl51,q1,q5];refine(z7b (Zf _) (hoB.rep.mono hx7 w6) (r3.mono k37 w3) w7).mono ?_;rintro v H8 ⟨rfl,hx8⟩;have w8:=hx8.wf;have g2:=hx8.get w7 g2;have g4:=hx8.get w7 g4;have q6:=rowS (hx8.get w7 g6);have k68:=hx7.trans hx8;try simp only[]
 (repeat refine EvC.seq ?_);refine EvC.reg ?_;simp only[sB,Za,reduceCtorEq,ld39,cl41,q6];refine(z78 (hsd.to (S2:=fun _=>True) fun n hn hl=>⟨k68.keep n hl,trivial,Zh hl k68.next⟩) w8).mono ?_;rintro v H9 ⟨rfl,hx9⟩;have g2:=hx9.get w8 g2;have g4:=hx9.get w8 g4;have q4:=row6 g4;have hxE:=((hx.trans k37).trans hx8).trans hx9;by_cases hok:(readyS (toldB b)).2=.ok;rotate_left
 ·have hn:¬Good b:=fun h=>hok (by rw[h.ready])
  have hne:noneB (readyS (toldB b)).2=false:=by
   cases hb:noneB (readyS (toldB b)).2 with
   |false=>rfl
   |true=>exact absurd (z7s.1 hb) hok
  rw[hne]
  repeat' (first|refine EvC.seq ?_|(refine EvC.ret ?_;try simp only[z04,z02])|(refine EvC.reg ?_;simp only[sB,Za,Zb,Value.cells,one,reduceCtorEq,layC,bd25,st25,g2])|(refine z0i ?_;simp only[sB,Za,reduceCtorEq,Zt])|(refine EvC.condT ?_ ?_;simp only[sB,Za,reduceCtorEq];refine z07 ?_))
  refine z09 rfl (by simp only[sB,Za,reduceCtorEq];rfl) (by simp only[sB,Zb,cutC,ld25];rfl) (by simp only[sB,Za,reduceCtorEq];rfl) ⟨hxE.pt (i:=H.next+1) (by omega) g2 _,_,by rw[termE,if_neg hn],?_⟩;rw[termV,if_neg hn];exact z7c
 have hne:noneB (readyS (toldB b)).2=true:=z7s.2 hok;rw[hne];by_cases heq:(readyS (toldB b)).1=b;rotate_left
 ·have hn:¬Good b:=fun h=>heq (by rw[h.ready])
  repeat' (first|refine EvC.seq ?_|(refine EvC.ret ?_;try simp only[z04,z02])|(refine EvC.reg ?_;simp only[sB,Za,Zb,Value.cells,one,reduceCtorEq,layC,bd25,st25,g2])|(refine z0i ?_;simp only[sB,Za,reduceCtorEq,z79 heq,Zt,Zp,Zd])|(refine EvC.condT ?_ ?_;simp only[sB,Za,reduceCtorEq];refine z07 ?_))
  refine z09 rfl (by simp only[sB,Za,reduceCtorEq];rfl) (by simp only[sB,Zb,cutC,ld25];rfl) (by simp only[sB,Za,reduceCtorEq];rfl) ⟨hxE.pt (i:=H.next+1) (by omega) g2 _,_,by rw[termE,if_neg hn],?_⟩;rw[termV,if_neg hn];exact z7c
 have hn:Good b:=Good.of hok heq
 repeat' (first|refine EvC.seq ?_|(refine EvC.skip ?_;try simp only[z00])|(refine EvC.ret ?_)|(refine EvC.reg ?_;simp only[sB,Za,Zb,one,reduceCtorEq,st25,ld25,g2,q4])|(refine z0i ?_;simp only[sB,Za,reduceCtorEq,zaa heq,Zp,Zd])|(refine EvC.condF ?_ ?_;simp only[sB,Za,reduceCtorEq];refine z07 ?_))
 refine z09 rfl (by simp only[sB,Za,reduceCtorEq];rfl) (by simp only[sB,Zb,cutC,ld25];rfl) (by simp only[sB,Za,reduceCtorEq];rfl) ⟨hxE.pt (i:=H.next+1) (by omega) g2 _,_,by rw[termE,if_pos hn],?_⟩;rw[termV,if_pos hn];have k59:=(k57.trans hx8).trans hx9;have hn39:=hx3.next;have k49:=hx5.trans k59;exact(hrT.to (S2:=fun _=>True) fun n hn hl=>⟨by rw[get_put,if_neg (by rcases hn with hn|hn<;>omega)];exact k49.keep n hl,trivial,by rw[z06];exact Zh hl k49.next⟩).rep
theorem RepT.whole {H:Heap}{c:Cls}{b:Nat}{a1 a2:Option Addr}{c1 c2:Nat}(hw:H.wf) (r1:RepT H c.head (six c.head a1 c1)) (r2:RepT H (toldB c.body) (six (toldB c.body) a2 c2)) (g:H.get b=some (.row (six c.head a1 c1++six (toldB c.body) a2 c2) 25)) :
  RepT H (wholeC c) (six (wholeC c) (some ⟨b,0,none⟩) 2):=(z2y (S:=fun n=>n < H.next) (by decide) g (hw _ _ g) hw (RepT.toS hw r1) (RepT.toS hw r2)).rep
noncomputable def checkC (c:Cls):Int:=open Classical in if Good c.body∧checkS c.head=0 then (if 400 < cnt c.head 0+cnt (toldB c.body) 0 then 110 else if GoodC c then 0 else 1) else 1
theorem GoodC.le {c:Cls}(h:GoodC c):¬ 400 < cnt c.head 0+cnt (toldB c.body) 0:=by
 have cc1:=za0 c.head;have cc2:=za0 (toldB c.body);have hf:=h.few;omega
theorem GoodC.chk {c:Cls}(h:GoodC c):checkC c=0:=by
 unfold checkC;rw[if_pos ⟨h.good,h.head⟩,if_neg h.le,if_pos h]
theorem za3 {c:Cls}(h:checkC c=0):GoodC c:=by
 unfold checkC at h;split at h
 ·split at h
  ·cases h
  ·split at h
   ·assumption
   ·cases h
 ·cases h
theorem zbh {c:Cls}(h:¬Good c.body):checkC c=1:=by unfold checkC;rw[if_neg fun q=>h q.1]
theorem za4 {c:Cls}(h:checkS c.head≠0):checkC c=1:=by unfold checkC;rw[if_neg fun q=>h q.2]
theorem zbi {c:Cls}(h1:Good c.body) (h2:checkS c.head=0) (h:400 < cnt c.head 0+cnt (toldB c.body) 0):checkC c=110:=by unfold checkC;rw[if_pos ⟨h1,h2⟩,if_pos h]
theorem z33 {c d:Cls}{m:ByteArray}{e:Er}(h1:Good c.body) (h2:checkS c.head=0) (h3:¬ 400 < cnt c.head 0+cnt (toldB c.body) 0) (hR:readS Ze (wholeC c)=(m,d,e)) (hn:¬(e=.ok∧d=c∧m=Ze)):checkC c=1:=by
 unfold checkC;rw[if_pos ⟨h1,h2⟩,if_neg h3,if_neg fun hg=>hn ?_];have:=hg.read Ze;rw[hR] at this;cases this;exact⟨rfl,rfl,rfl⟩
set_option maxHeartbeats 8000000 in
theorem zbj {c:Cls}{cs:List Value}{H:Heap}(hf:FewB 1000000 c.body) (r:RdC H c cs) (hw:H.wf) :
  EvF Tryz.prog okT 20 [.agg ⟨cs⟩] H fun v H'=>v=.int .i64 (checkC c)∧HX H H':=by
 obtain⟨ha,hc,ta,tc,a,k,rfl,rh,rb⟩:=r;refine EvF.enter rfl Tryz.func20 (by decide) rfl ?_;(repeat refine EvC.seq ?_);refine EvC.reg ?_;simp (config := { maxSteps := 2000000 }) (disch:=first|omega|rfl) only[sB,initTm,dBox,Value.cells,one];obtain⟨H2,e2,hx2,g1,hn2,hw2⟩:=new1 hw (.row (fift c.head ha hc c.body.kind c.body.term ta tc a c.body.sub.length k c.vars) 32);simp only[e2];clear e2;have q1:=z0u g1;(repeat refine EvC.seq ?_);refine EvC.reg ?_;simp (config := { maxSteps := 2000000 }) only[sB,Za,reduceCtorEq,z6q,ld30,cl16,q1];refine(zcv hf (rb.mono hx2 hw) hw2).mono ?_;rintro v H3 ⟨hx3,out,rfl,hot⟩;obtain⟨ao,co,cellso,rfl,-⟩:=hot.rep.six;have w3:=hx3.wf;have n3:=hx3.next;try simp (config := { maxSteps := 2000000 }) (disch:=first|omega|rfl) only[sB,dAlloc,Za,Zb,one,reduceCtorEq,zr25,st25]
 obtain⟨H4,e4,hx4,g3,hn4,w4⟩:=z0l w3 (.row zero6 25) (.row (six (termV c.body) ao co) 25);simp only[e4];clear e4;by_cases hg:Good c.body;rotate_left
 ·have hE:termE c.body≠0:=by rw[termE,if_neg hg];decide
  repeat' (first|refine EvC.seq ?_|(refine EvC.ret ?_;try simp only[z04,z02])|(refine EvC.reg ?_;simp (config := { maxSteps := 2000000 }) only[sB,Za,reduceCtorEq,z1j hE])|(refine EvC.condT ?_ ?_;simp (config := { maxSteps := 2000000 }) only[sB,Za,reduceCtorEq];refine z07 ?_))
  exact z03 rfl (by simp only[sB,Za,reduceCtorEq];rfl) ⟨by rw[zbh hg],(hx2.trans hx3).trans hx4⟩
 have hE:termE c.body=0:=by rw[termE,if_pos hg]
 have hV:termV c.body=toldB c.body:=by rw[termV,if_pos hg]
 rw[hV] at hot g3;have hx24:=hx3.trans hx4;have hx:=hx2.trans hx24;have g1:=hx24.get hw2 g1;have q1:=z0u g1;have rt4:=hot.rep.mono hx4 w3;(repeat refine EvC.seq ?_);refine EvC.reg ?_;simp (config := { maxSteps := 2000000 }) only[sB,Za,reduceCtorEq,z4t,ld25,cl29,z0z hE,q1];refine(z2s _ _ _ (rh.mono hx hw) w4).mono ?_;rintro v H5 ⟨rfl,hx5⟩;have g1:=hx5.get w4 g1;have g3:=hx5.get w4 g3;have q1:=z0u g1;have q3:=row6 g3;have hx':=hx.trans hx5;have w5:=hx5.wf;by_cases hh:checkS c.head=0;rotate_left
 ·repeat' (first|refine EvC.seq ?_|(refine EvC.ret ?_;try simp only[z04,z02])|(refine EvC.reg ?_;simp (config := { maxSteps := 2000000 }) only[sA])|(refine z0i ?_;simp (config := { maxSteps := 2000000 }) only[sB,Za,reduceCtorEq,z1j hh])|(refine EvC.condT ?_ ?_;simp (config := { maxSteps := 2000000 }) only[sB,Za,reduceCtorEq];refine z07 ?_))
  exact z03 rfl (by simp only[sB,Za,reduceCtorEq];rfl) ⟨by rw[za4 hh],hx'⟩
 try simp (config := { maxSteps := 2000000 }) only[sB,Za,reduceCtorEq,z0z hh]
 refine EvC.condF (by simp (config := { maxSteps := 2000000 }) only[sB,Za,reduceCtorEq]) ?_;(try refine EvC.skip ?_);(try simp only[z00,z01]);(repeat refine EvC.seq ?_);refine EvC.drw [([(0,0),(1,0)],some 2),([(3,0)],some 4),([(5,2),(6,2)],none)] (by kernel_rfl) ?_;simp (config := { maxSteps := 2000000 }) only[sD,sB,Za,Zb,reduceCtorEq,z4t,ld25,cl35,isAlloc,isRead,q1];have hb:HX H5 ⟨H5.next+7,H5.t⟩:=(HX.refl w5).bump 7;refine(z1h _ _ _ ((rh.mono hx' hw).mono hb w5) hb.wf).mono ?_;rintro v H6 ⟨rfl,hx6⟩;have k56:=hb.trans hx6;have q36:=row6 (k56.get w5 g3)
 repeat' (first|(refine z0h ?_;simp (config := { maxSteps := 2000000 }) only[sV,sD,sB,Za,reduceCtorEq,ld25,cl35,q3,q36,isAlloc,isRead]))
 refine(z1h _ _ _ ((rt4.mono hx5 w4).mono k56 w5) hx6.wf).mono ?_;rintro v H7 ⟨rfl,hx7⟩;have k57:=k56.trans hx7;have w7:=hx7.wf;have g1:=k57.get w5 g1;have g3:=k57.get w5 g3;have q1:=z0u g1;have q3:=row6 g3;have hx7':=hx'.trans k57;have cc1:=z2i c.head;have cc2:=z2i (toldB c.body);by_cases h4:400 < cnt c.head 0+cnt (toldB c.body) 0
 ·have hd:decide ((cnt c.head 0:Int)+(cnt (toldB c.body) 0:Int) > 400)=true:=decide_eq_true (by omega)
  repeat' (first|refine EvC.seq ?_|(refine EvC.ret ?_;try simp only[z04,z02])|(refine EvC.reg ?_;simp (config := { maxSteps := 2000000 }) only[sA])|(refine z0h ?_;simp (config := { maxSteps := 2000000 }) (disch:=first|omega|rfl) only[sD,sB,Za,Zb,reduceCtorEq,z0b,hd,isAlloc,isRead])|(refine EvC.condT ?_ ?_;simp (config := { maxSteps := 2000000 }) only[sB,Za,reduceCtorEq];refine z07 ?_))
  exact z03 rfl (by simp only[sB,Za,reduceCtorEq];rfl) ⟨by rw[zbi hg hh h4],hx7'⟩
 have hd:decide ((cnt c.head 0:Int)+(cnt (toldB c.body) 0:Int) > 400)=false:=decide_eq_false (by omega)
 repeat' (first|refine EvC.seq ?_|(refine EvC.skip ?_;try simp only[z00])|(refine EvC.reg ?_;simp (config := { maxSteps := 2000000 }) (disch:=first|omega|rfl) only[sB,Za,Zb,Value.cells,one,reduceCtorEq,Zk,layC,z4t,ld25,z6r,cl59,cl7,q1,q3])|(refine z0h ?_;simp (config := { maxSteps := 2000000 }) (disch:=first|omega|rfl) only[sD,sB,Za,Zb,reduceCtorEq,z0b,hd,isAlloc,isRead])|(refine EvC.condF ?_ ?_;simp (config := { maxSteps := 2000000 }) only[sB,Za,reduceCtorEq];refine z07 ?_))
 obtain⟨H8,e8,hx8,g8,hn8,w8⟩:=new1 w7 (.row (six c.head ha hc++six (toldB c.body) ao co) 25);have e8':=e8;simp only[six,ZK,List.nil_append] at e8';simp only[e8'];clear e8 e8';refine(z2k w8).mono ?_;rintro v H9 ⟨rfl,hx9⟩;have w9:=hx9.wf;have k79:=hx8.trans hx9;have hx9':=hx7'.trans k79;have rh9:=rh.mono hx9' hw;have rt9:=((rt4.mono hx5 w4).mono k57 w5).mono k79 w7;have rw9:RepT H9 (wholeC c) (six (wholeC c) (some ⟨H7.next,0,none⟩) 2):=RepT.whole w9 rh9 rt9 (hx9.get w8 g8);refine(zrw (m:=Ze) rw9 w9).mono ?_;obtain⟨⟨m',d,e⟩,hR⟩:∃R,readS Ze (wholeC c)=R:=⟨_,rfl⟩
 rw[hR];rintro v H10 ⟨hx10,csr,ev,rfl,hrc,her⟩;have hrc:RepC H10 (Rg H9.next H10.next) d csr:=hrc;have her:RepES H10 (Rg H9.next H10.next) e ev:=her;obtain⟨ha',hc',ta',tc',a',k',rfl,rh',rb'⟩:=hrc.rd;have w10:=hx10.wf;try simp (config := { maxSteps := 2000000 }) (disch:=first|omega|rfl) only[sB,dAlloc,Za,Zb,one,reduceCtorEq,zr32,st32]
 obtain⟨H11,e11,hx11,g6,hn11,w11⟩:=z0l w10 (.row zero15 32) (.row (fift d.head ha' hc' d.body.kind d.body.term ta' tc' a' d.body.sub.length k' d.vars) 32);simp only[e11];clear e11;have k911:=hx10.trans hx11;have k711:=k79.trans k911;have g1:=k711.get w7 g1;have q1:=z0u g1;have q6:=z0u g6;have hx11':=hx7'.trans k711;by_cases hok:e=.ok;rotate_left
 ·obtain⟨T0,x0,rfl⟩:=her.rep.some hok
  repeat' (first|refine EvC.seq ?_|(refine EvC.ret ?_;try simp only[z04,z02])|(refine EvC.reg ?_;simp (config := { maxSteps := 2000000 }) only[sB,Za,reduceCtorEq,zex])|(refine EvC.condT ?_ ?_;simp (config := { maxSteps := 2000000 }) only[sB,Za,reduceCtorEq];refine z07 ?_))
  exact z03 rfl (by simp only[sB,Za,reduceCtorEq];rfl) ⟨by rw[z33 hg hh h4 hR fun q=>hok q.1],hx11'⟩
 subst hok;obtain rfl:ev=.nilIface:=her.rep;by_cases hm:m'=⟨#[]⟩
 rotate_left
 ·have he0:(m'.toList == (⟨#[]⟩:ByteArray).toList)=false:=z9j hm
  repeat' (first|refine EvC.seq ?_|(refine EvC.ret ?_;try simp only[z04,z02])|(refine EvC.reg ?_;simp (config := { maxSteps := 2000000 }) only[sB,Za,reduceCtorEq,zbb,z0y,he0,Zt,Zd])|(refine EvC.condT ?_ ?_;simp (config := { maxSteps := 2000000 }) only[sB,Za,reduceCtorEq];refine z07 ?_))
  exact z03 rfl (by simp only[sB,Za,reduceCtorEq];rfl) ⟨by rw[z33 hg hh h4 hR fun q=>hm q.2.2],hx11'⟩
 subst hm;have he0:((⟨#[]⟩:ByteArray).toList == (⟨#[]⟩:ByteArray).toList)=true:=z23 rfl;(repeat refine EvC.seq ?_);refine EvC.reg ?_;simp (config := { maxSteps := 2000000 }) only[sB,Za,reduceCtorEq,z4t,ld25,cl60,zbb,z0y,he0,Zp,q1,q6];refine(zf5 (Zf _) (rh'.mono hx11 w10) (rh.mono hx11' hw) w11).mono ?_;rintro v H12 ⟨rfl,hx12⟩;have g1:=hx12.get w11 g1;have g6:=hx12.get w11 g6;have q1:=z0u g1;have q6:=z0u g6;have w12:=hx12.wf;by_cases h1:d.head=c.head;rotate_left
 ·repeat' (first|refine EvC.seq ?_|(refine EvC.ret ?_;try simp only[z04,z02])|(refine EvC.reg ?_;simp (config := { maxSteps := 2000000 }) only[sA])|(refine z0i ?_;simp (config := { maxSteps := 2000000 }) only[sB,Za,reduceCtorEq,z3y h1,Zt])|(refine EvC.condT ?_ ?_;simp (config := { maxSteps := 2000000 }) only[sB,Za,reduceCtorEq];refine z07 ?_))
  exact z03 rfl (by simp only[sB,Za,reduceCtorEq];rfl) ⟨by rw[z33 hg hh h4 hR fun q=>h1 (by rw[q.2.1])],hx11'.trans hx12⟩
 try simp (config := { maxSteps := 2000000 }) only[sB,Za,reduceCtorEq,z6q,ld30,cl55,z5n h1,Zp,q1,q6]
 refine(z7a (Zf _) ((rb'.mono hx11 w10).mono hx12 w11) ((rb.mono hx11' hw).mono hx12 w11) w12).mono ?_;rintro v H13 ⟨rfl,hx13⟩;have g1:=hx13.get w12 g1;have g6:=hx13.get w12 g6;have q1:=z0u g1;have q6:=z0u g6;by_cases h2:d.body=c.body;rotate_left
 ·repeat' (first|refine EvC.seq ?_|(refine EvC.ret ?_;try simp only[z04,z02])|(refine EvC.reg ?_;simp (config := { maxSteps := 2000000 }) only[sA])|(refine z0i ?_;simp (config := { maxSteps := 2000000 }) only[sB,Za,reduceCtorEq,z79 h2,Zt])|(refine EvC.condT ?_ ?_;simp (config := { maxSteps := 2000000 }) only[sB,Za,reduceCtorEq];refine z07 ?_))
  exact z03 rfl (by simp only[sB,Za,reduceCtorEq];rfl) ⟨by rw[z33 hg hh h4 hR fun q=>h2 (by rw[q.2.1])],(hx11'.trans hx12).trans hx13⟩
 by_cases h3:d.vars=c.vars;rotate_left
 ·repeat' (first|refine EvC.seq ?_|(refine EvC.ret ?_;try simp only[z04,z02])|(refine EvC.reg ?_;simp (config := { maxSteps := 2000000 }) only[sA])|(refine z0i ?_;simp (config := { maxSteps := 2000000 }) only[sB,Za,reduceCtorEq,zdw,ld3,zaa h2,Zp,q1,q6,z1j h3,Zd])|(refine EvC.condT ?_ ?_;simp (config := { maxSteps := 2000000 }) only[sB,Za,reduceCtorEq];refine z07 ?_))
  exact z03 rfl (by simp only[sB,Za,reduceCtorEq];rfl) ⟨by rw[z33 hg hh h4 hR fun q=>h3 (by rw[q.2.1])],(hx11'.trans hx12).trans hx13⟩
 repeat' (first|refine EvC.seq ?_|(refine EvC.skip ?_;try simp only[z00])|(refine EvC.ret ?_)|(refine EvC.reg ?_;simp (config := { maxSteps := 2000000 }) only[sA])|(refine z0i ?_;simp (config := { maxSteps := 2000000 }) only[sB,Za,reduceCtorEq,zdw,ld3,zaa h2,Zp,q1,q6,z0z h3,Zd])|(refine EvC.condF ?_ ?_;simp (config := { maxSteps := 2000000 }) only[sB,Za,reduceCtorEq];refine z07 ?_))
 exact z03 rfl (by simp only[sB,Za,reduceCtorEq];rfl) ⟨by rw[(zmt h1 h2 h3 ▸ zbd hR:GoodC c).chk],(hx11'.trans hx12).trans hx13⟩
set_option maxHeartbeats 8000000 in
theorem zbk {c:Cls}{cs:List Value}{H:Heap}(hf:FewB 1000000 c.body) (r:RdC H c cs) (hw:H.wf) :
  EvF Tryz.prog okT 21 [.agg ⟨cs⟩] H fun v H'=>v=.int .i64 (checkC c)∧HX H H':=by
 have r0:=r;obtain⟨ha,hc,ta,tc,a,k,rfl,rh,rb⟩:=r;refine EvF.enter rfl Tryz.func21 (by decide) rfl ?_;(repeat refine EvC.seq ?_);refine EvC.reg ?_;simp (config := { maxSteps := 2000000 }) (disch:=first|omega|rfl) only[sB,initTm,dBox,Value.cells,one];obtain⟨H2,e2,hx2,g1,hn2,hw2⟩:=new1 hw (.row (fift c.head ha hc c.body.kind c.body.term ta tc a c.body.sub.length k c.vars) 32);simp only[e2];clear e2;have q1:=z0u g1;(repeat refine EvC.seq ?_);refine EvC.reg ?_;simp (config := { maxSteps := 2000000 }) only[sB,Za,reduceCtorEq,z6q,ld30,cl17,q1];refine(zif hf (rb.mono hx2 hw) hw2).mono ?_;rintro v H3 ⟨hx3,out,rfl,rt3⟩;obtain⟨ao,co,cellso,rfl,-⟩:=rt3.six;have w3:=hx3.wf;try simp (config := { maxSteps := 2000000 }) (disch:=first|omega|rfl) only[sB,dAlloc,Za,Zb,one,reduceCtorEq,zr25,st25]
 obtain⟨H4,e4,hx4,g3,hn4,w4⟩:=z0l w3 (.row zero6 25) (.row (six (termV c.body) ao co) 25);simp only[e4];clear e4;have hx24:=hx3.trans hx4;have hx:=hx2.trans hx24;have g1:=hx24.get hw2 g1;have q1:=z0u g1;by_cases hg:Good c.body;rotate_left
 ·have hE:termE c.body≠0:=by rw[termE,if_neg hg];decide
  repeat' (first|refine EvC.seq ?_|(refine EvC.ret ?_;try simp only[z04,z02])|(refine EvC.reg ?_;simp (config := { maxSteps := 2000000 }) only[sB,Za,reduceCtorEq,z1j hE])|(refine EvC.condT ?_ ?_;simp (config := { maxSteps := 2000000 }) only[sB,Za,reduceCtorEq];refine z07 ?_))
  exact z03 rfl (by simp only[sB,Za,reduceCtorEq];rfl) ⟨by rw[zbh hg],hx⟩
 have hE:termE c.body=0:=by rw[termE,if_pos hg]
 have hV:termV c.body=toldB c.body:=by rw[termV,if_pos hg]
 rw[hV] at rt3 g3;have rt4:=rt3.mono hx4 w3
 repeat' (first|refine EvC.seq ?_|(refine EvC.skip ?_;try simp only[z00])|(refine EvC.reg ?_;simp (config := { maxSteps := 2000000 }) only[sB,Za,reduceCtorEq,z4t,ld25,cl14,z0z hE,q1])|(refine EvC.condF ?_ ?_;simp (config := { maxSteps := 2000000 }) only[sB,Za,reduceCtorEq];refine z07 ?_))
 refine(z4x _ _ _ (rh.mono hx hw) w4).mono ?_;rintro v H5 ⟨rfl,hx5⟩;have g1:=hx5.get w4 g1;have g3:=hx5.get w4 g3;have q1:=z0u g1;have q3:=row6 g3;have hx':=hx.trans hx5;have w5:=hx5.wf;by_cases hh:checkS c.head=0;rotate_left
 ·repeat' (first|refine EvC.seq ?_|(refine EvC.ret ?_;try simp only[z04,z02])|(refine EvC.reg ?_;simp (config := { maxSteps := 2000000 }) only[sA])|(refine z0i ?_;simp (config := { maxSteps := 2000000 }) only[sA,z1j hh])|(refine EvC.condT ?_ ?_;simp (config := { maxSteps := 2000000 }) only[sB,Za,reduceCtorEq];refine z07 ?_))
  exact z03 rfl (by simp only[sB,Za,reduceCtorEq];rfl) ⟨by rw[za4 hh],hx'⟩
 try simp (config := { maxSteps := 2000000 }) only[sA,z0z hh]
 refine EvC.condF (by simp (config := { maxSteps := 2000000 }) only[sB,Za,reduceCtorEq]) ?_;(try refine EvC.skip ?_);(try simp only[z00,z01]);(repeat refine EvC.seq ?_);refine EvC.drw [([(0,0),(1,0)],some 2),([(3,0)],some 4),([(5,2),(6,2)],none)] (by kernel_rfl) ?_;simp (config := { maxSteps := 2000000 }) only[sD,sB,Za,Zb,reduceCtorEq,z4t,ld25,cl46,isAlloc,isRead,q1];have hb:HX H5 ⟨H5.next+7,H5.t⟩:=(HX.refl w5).bump 7;refine(z1u _ _ _ ((rh.mono hx' hw).mono hb w5) hb.wf).mono ?_;rintro v H6 ⟨rfl,hx6⟩;have k56:=hb.trans hx6;have q36:=row6 (k56.get w5 g3)
 repeat' (first|(refine z0h ?_;simp (config := { maxSteps := 2000000 }) only[sV,sD,sB,Za,reduceCtorEq,ld25,cl46,q3,q36,isAlloc,isRead]))
 refine(z1u _ _ _ ((rt4.mono hx5 w4).mono k56 w5) hx6.wf).mono ?_;rintro v H7 ⟨rfl,hx7⟩;have k57:=k56.trans hx7;have w7:=hx7.wf;have g1:=k57.get w5 g1;have g3:=k57.get w5 g3;have q1:=z0u g1;have q3:=row6 g3;have hx7':=hx'.trans k57;have cc1:=z2i c.head;have cc2:=z2i (toldB c.body);by_cases h4:400 < cnt c.head 0+cnt (toldB c.body) 0
 ·have hd:decide ((cnt c.head 0:Int)+(cnt (toldB c.body) 0:Int) > 400)=true:=decide_eq_true (by omega)
  repeat' (first|refine EvC.seq ?_|(refine EvC.ret ?_;try simp only[z04,z02])|(refine EvC.reg ?_;simp (config := { maxSteps := 2000000 }) only[sA])|(refine z0h ?_;simp (config := { maxSteps := 2000000 }) (disch:=first|omega|rfl) only[sD,sB,Za,Zb,reduceCtorEq,z0b,hd,isAlloc,isRead])|(refine EvC.condT ?_ ?_;simp (config := { maxSteps := 2000000 }) only[sB,Za,reduceCtorEq];refine z07 ?_))
  exact z03 rfl (by simp only[sB,Za,reduceCtorEq];rfl) ⟨by rw[zbi hg hh h4],hx7'⟩
 have hd:decide ((cnt c.head 0:Int)+(cnt (toldB c.body) 0:Int) > 400)=false:=decide_eq_false (by omega)
 repeat' (first|refine EvC.seq ?_|(refine EvC.skip ?_;try simp only[z00])|(refine EvC.reg ?_;simp (config := { maxSteps := 2000000 }) only[sB,Za,reduceCtorEq,z4t,ld25,cl23,cl8,q1,q3])|(refine z0h ?_;simp (config := { maxSteps := 2000000 }) (disch:=first|omega|rfl) only[sD,sB,Za,Zb,reduceCtorEq,z0b,hd,isAlloc,isRead])|(refine EvC.condF ?_ ?_;simp (config := { maxSteps := 2000000 }) only[sB,Za,reduceCtorEq];refine z07 ?_))
 refine(zln w7).mono ?_;rintro v H9 ⟨p,rfl,gp,hp1,hp2,k79⟩;have w9:=k79.wf;have hx9':=hx7'.trans k79;have rh9:=rh.mono hx9' hw;have rt9:=((rt4.mono hx5 w4).mono k57 w5).mono k79 w7;have rw9:RepT H9 (wholeC c) (six (wholeC c) (some ⟨p,0,none⟩) 2):=RepT.whole w9 rh9 rt9 gp;try simp (config := { maxSteps := 2000000 }) only[]
 refine(zos (m:=⟨#[]⟩) rw9 w9).mono ?_;obtain⟨⟨m',d,e⟩,hR⟩:∃R,readS Ze (wholeC c)=R:=⟨_,rfl⟩
 have hR':readS ⟨#[]⟩ (wholeC c)=(m',d,e):=hR;rw[hR'];rintro v H10 ⟨hx10,csr,sd,rfl,hrc,hsd⟩;have hrc:RepC H10 (Rg H9.next H10.next) d csr:=hrc;have hsd:RSaid H10 (Rg H9.next H10.next) e sd:=hsd;have hrd:=hrc.rd;obtain⟨ha',hc',ta',tc',a',k',rfl,rh',rb'⟩:=hrc.rd;obtain⟨en,ebb,et,sea,sec,rfl⟩:=hsd.cells;have w10:=hx10.wf;try simp (config := { maxSteps := 2000000 }) (disch:=first|omega|rfl) only[sB,dAlloc,Za,Zb,one,reduceCtorEq,zr32,zr39,st32,st39,neu,neu']
 obtain⟨H11,e11,hx11,g6,g7,hn11,w11⟩:=zie w10 (.row zero15 32) (.row said0 39) (.row (fift d.head ha' hc' d.body.kind d.body.term ta' tc' a' d.body.sub.length k' d.vars) 32) (.row (saidT en ebb et sea sec) 39);simp only[e11];clear e11;have k911:=hx10.trans hx11;have k711:=k79.trans k911;have g1:=k711.get w7 g1;have q1:=z0u g1;have q6:=z0u g6;have hx11':=hx7'.trans k711;(repeat refine EvC.seq ?_);refine EvC.reg ?_;simp (config := { maxSteps := 2000000 }) only[sB,Za,reduceCtorEq,ld32,cl9,q1,q6];refine(z57 (hrd.mono hx11 w10) (r0.mono hx11' hw) w11).mono ?_;rintro v H12 ⟨rfl,hx12⟩;have w12:=hx12.wf;have q7:=rowS (hx12.get w11 g7);have k1012:=hx11.trans hx12;try simp (config := { maxSteps := 2000000 }) only[]
 (repeat refine EvC.seq ?_);refine EvC.reg ?_;simp (config := { maxSteps := 2000000 }) only[sB,Za,reduceCtorEq,ld39,cl41,q7];refine(z78 (hsd.to (S2:=fun _=>True) fun n hn hl=>⟨k1012.keep n hl,trivial,Zh hl k1012.next⟩) w12).mono ?_;rintro v H13 ⟨rfl,hx13⟩;have hxE:=(hx11'.trans hx12).trans hx13;by_cases hok:e=.ok;rotate_left
 ·have hne:noneB e=false:=by
   cases hb:noneB e with
   |false=>rfl
   |true=>exact absurd (z7s.1 hb) hok
  rw[hne]
  repeat' (first|refine EvC.seq ?_|(refine EvC.ret ?_;try simp only[z04,z02])|(refine EvC.reg ?_;simp (config := { maxSteps := 2000000 }) only[sA])|(refine z0i ?_;simp (config := { maxSteps := 2000000 }) only[sB,Za,reduceCtorEq,Zt])|(refine EvC.condT ?_ ?_;simp (config := { maxSteps := 2000000 }) only[sB,Za,reduceCtorEq];refine z07 ?_))
  exact z03 rfl (by simp only[sB,Za,reduceCtorEq];rfl) ⟨by rw[z33 hg hh h4 hR fun q=>hok q.1],hxE⟩
 have hne:noneB e=true:=z7s.2 hok;rw[hne];by_cases hdc:d=c;rotate_left
 ·repeat' (first|refine EvC.seq ?_|(refine EvC.ret ?_;try simp only[z04,z02])|(refine EvC.reg ?_;simp (config := { maxSteps := 2000000 }) only[sA])|(refine z0i ?_;simp (config := { maxSteps := 2000000 }) only[sB,Za,reduceCtorEq,zoo hdc,Zt,Zp,Zd])|(refine EvC.condT ?_ ?_;simp (config := { maxSteps := 2000000 }) only[sB,Za,reduceCtorEq];refine z07 ?_))
  exact z03 rfl (by simp only[sB,Za,reduceCtorEq];rfl) ⟨by rw[z33 hg hh h4 hR fun q=>hdc q.2.1],hxE⟩
 by_cases hm:m'=⟨#[]⟩
 rotate_left
 ·have he0:(m'.toList == (⟨#[]⟩:ByteArray).toList)=false:=z9j hm
  repeat' (first|refine EvC.seq ?_|(refine EvC.ret ?_;try simp only[z04,z02])|(refine EvC.reg ?_;simp (config := { maxSteps := 2000000 }) only[sA])|(refine z0i ?_;simp (config := { maxSteps := 2000000 }) only[sB,Za,reduceCtorEq,zon hdc,z0y,he0,Zt,Zp,Zd])|(refine EvC.condT ?_ ?_;simp (config := { maxSteps := 2000000 }) only[sB,Za,reduceCtorEq];refine z07 ?_))
  exact z03 rfl (by simp only[sB,Za,reduceCtorEq];rfl) ⟨by rw[z33 hg hh h4 hR fun q=>hm q.2.2],hxE⟩
 have he0:(m'.toList == (⟨#[]⟩:ByteArray).toList)=true:=z23 hm;have hgc:GoodC c:=by subst hok;rw[hdc] at hR;exact zbd hR
 repeat' (first|refine EvC.seq ?_|(refine EvC.skip ?_;try simp only[z00])|(refine EvC.ret ?_)|(refine EvC.reg ?_;simp (config := { maxSteps := 2000000 }) only[sA])|(refine z0i ?_;simp (config := { maxSteps := 2000000 }) only[sB,Za,reduceCtorEq,zon hdc,z0y,he0,Zp,Zd])|(refine EvC.condF ?_ ?_;simp (config := { maxSteps := 2000000 }) only[sB,Za,reduceCtorEq];refine z07 ?_))
 exact z03 rfl (by simp only[sB,Za,reduceCtorEq];rfl) ⟨by rw[hgc.chk],hxE⟩
noncomputable def wholeV (c:Cls):Tm:=open Classical in if GoodC c then wholeC c else zeroT
def WholeEnd (H:Heap) (c:Cls) (v:Value) (H':Heap):Prop:=HX H H'∧∃out,v=.tuple ⟨[.agg ⟨out⟩,.int .i64 (checkC c)]⟩∧((¬GoodC c∧out=six zeroT none 0) ∨
 (GoodC c∧∃(p:Nat) (a1:Option Addr) (c1:Nat) (a2:Option Addr) (c2:Nat),out=six (wholeC c) (some ⟨p,0,none⟩) 2∧H.next≤p∧p < H'.next∧H'.get p=some (.row (six c.head a1 c1++six (toldB c.body) a2 c2) 25)∧RepS H' (Rg H.next H'.next) (wholeC c) out))
set_option maxHeartbeats 8000000 in
theorem zbl {c:Cls}{cs:List Value}{H:Heap}(hf:FewB 1000000 c.body) (r:RdC H c cs) (hw:H.wf) :
  EvF Tryz.prog okT 18 [.agg ⟨cs⟩] H (WholeEnd H c):=by
 have r0:=r;obtain⟨ha,hc,ta,tc,a,k,rfl,rh,rb⟩:=r;refine EvF.enter rfl Tryz.func18 (by decide) rfl ?_;(repeat refine EvC.seq ?_);refine EvC.reg ?_;simp only[sB,initTm,dBox,dAlloc,Value.cells,one,zr25];obtain⟨H2,e2,hx2,g1,g2,hn2,hw2⟩:=new2 hw (.row (fift c.head ha hc c.body.kind c.body.term ta tc a c.body.sub.length k c.vars) 32) (.row zero6 25);simp only[e2];clear e2;have q1:=z0u g1;(repeat refine EvC.seq ?_);refine EvC.reg ?_;simp only[sB,Za,reduceCtorEq,ld32,cl20,q1];refine(zbj hf (r0.mono hx2 hw) hw2).mono ?_;rintro v H3 ⟨rfl,hx3⟩;have g1:=hx3.get hw2 g1;have g2:=hx3.get hw2 g2;have hx:=hx2.trans hx3;have w3:=hx.wf;have n3:=hx3.next;have q1:=z0u g1;try simp only[]
 by_cases hg:GoodC c;rotate_left
 ·have hne:checkC c≠0:=fun h=>hg (za3 h)
  repeat' (first|refine EvC.seq ?_|(refine EvC.ret ?_;try simp only[z04,z02])|(refine EvC.reg ?_;simp only[sB,Za,Zb,Value.cells,one,reduceCtorEq,layC,bd25,st25,z1j hne,g2])|(refine EvC.condT ?_ ?_;simp only[sB,Za,reduceCtorEq];refine z07 ?_))
  exact z09 rfl (by simp only[sB,Za,reduceCtorEq];rfl) (by simp only[sB,Zb,cutC,ld25];rfl) (by simp only[sG,Za,reduceCtorEq]) ⟨hx.pt (i:=H.next+1) (by omega) g2 _,_,rfl,.inl ⟨hg,rfl⟩⟩
 rw[hg.chk];(repeat refine EvC.seq ?_);refine EvC.reg ?_;simp only[sB,Za,reduceCtorEq,z0z rfl];refine EvC.condF (by simp only[sB,Za,reduceCtorEq]) ?_;(try refine EvC.skip ?_);(try simp only[z00,z01]);(repeat refine EvC.seq ?_);refine EvC.reg ?_;simp only[sB,Za,reduceCtorEq,z6q,ld30,cl16,q1];refine(zcv hf (rb.mono hx hw) w3).mono ?_;rintro v H4 ⟨hx4,out,rfl,hot⟩;rw[termV,if_pos hg.good] at hot;rw[termE,if_pos hg.good];obtain⟨ao,co,cellso,rfl,-⟩:=hot.rep.six;have w4:=hx4.wf;have n4:=hx4.next;try simp only[sB,dAlloc,Za,Zb,one,reduceCtorEq,zr25,st25]
 obtain⟨H5,e5,hx5,g5,hn5,w5⟩:=z0l w4 (.row zero6 25) (.row (six (toldB c.body) ao co) 25);simp only[e5];clear e5;have k35:=hx4.trans hx5;have hx5':=hx.trans k35;have g1:=k35.get w3 g1;have g2:=k35.get w3 g2;have q1:=z0u g1;have q5:=row6 g5;have rt5:=hot.rep.mono hx5 w4;(repeat refine EvC.seq ?_);refine EvC.drw [([(0,0),(1,0)],some 2),([(3,0),(4,1)],some 5),([],some 6),([(7,3)],none)] (by kernel_rfl) ?_;simp only[sD,sB,Za,Zb,reduceCtorEq,z4t,ld25,cl56,isAlloc,isRead,q1];have hb:HX H5 ⟨H5.next+8,H5.t⟩:=(HX.refl w5).bump 8;refine(z9t ((rh.mono hx5' hw).mono hb w5) hg.head hb.wf).mono ?_;rintro v H6 ⟨hx6,outO,rfl,hoo⟩;obtain⟨a6,c6,cells6,rfl,-⟩:=hoo.rep.six;have k56:=hb.trans hx6;have w6:=hx6.wf;have n6:H5.next+8≤H6.next:=hx6.next;have q56:=row6 (k56.get w5 g5)
 repeat' (first|(refine z0h ?_;simp only[sV,sD,sB,Za,Zb,Value.cells,one,reduceCtorEq,Zk,layC,ld25,z6r,cl59,q5,q56,isAlloc,isRead,dalloc]))
 obtain⟨H7,e7⟩:∃H7,H6.put (H5.next+4) (some (.row (six c.head a6 c6++six (toldB c.body) ao co) 25))=H7:=⟨_,rfl⟩
 have hx57:HX H5 H7:=by rw[←e7];exact k56.put (i:=H5.next+4) (by omega) (by omega) _
 have n7:H7.next=H6.next:=by rw[←e7];rfl
 have g7:H7.get (H5.next+4)=some (.row (six c.head a6 c6++six (toldB c.body) ao co) 25):=by rw[←e7,get_put,if_pos rfl]
 have ho7:OT H7 (Rg (H5.next+8) H6.next) c.head (six c.head a6 c6):=hoo.to fun n hn hl=>⟨by have a1:H5.next+8≤n:=hn.1;rw[←e7,get_put,if_neg (by omega)],hn,by omega⟩
 have e7':=e7;simp only[six,ZK,List.nil_append] at e7';simp only[e7'];clear e7 e7';have w7:=hx57.wf;refine(z2k w7).mono ?_;rintro v H8 ⟨rfl,hx8⟩;have k58:=hx57.trans hx8;have hx8':=hx5'.trans k58;have g2:=k58.get w5 g2;have n8:=hx8.next;have w8:=hx8.wf;have rw8:RepT H8 (wholeC c) (six (wholeC c) (some ⟨H5.next+4,0,none⟩) 2):=RepT.whole w8 (ho7.rep.mono hx8 w7) (rt5.mono k58 w5) (hx8.get w7 g7)
 repeat' (first|(refine EvC.ret ?_)|(refine z0h ?_;simp only[sD,sB,Za,Zb,one,reduceCtorEq,st25,g2,isAlloc,isRead]))
 have hz:=hx8'.pt (i:=H.next+1) (by omega) g2 (some (.row (six (wholeC c) (some ⟨H5.next+4,0,none⟩) 2) 25));refine z09 rfl (by simp only[sB,Za,reduceCtorEq];rfl) (by simp only[sB,Zb,cutC,ld25];rfl) (by simp only[sB,Za,reduceCtorEq];rfl) ⟨hz,six (wholeC c) (some ⟨H5.next+4,0,none⟩) 2,by rw[hg.chk];rfl,.inr ⟨hg,H5.next+4,a6,c6,ao,co,rfl,?_,?_,by rw[get_put,if_neg (by omega)];exact hx8.get w7 g7,?_⟩⟩
 ·have:=hx5'.next;omega
 ·rw[z06];omega
 have k48:=hx5.trans k58;have m5:=hx5'.next;have m3:=hx.next;have o1:OT (H8.put (H.next+1) (some (.row (six (wholeC c) (some ⟨H5.next+4,0,none⟩) 2) 25))) (Rg H.next (H8.put (H.next+1) (some (.row (six (wholeC c) (some ⟨H5.next+4,0,none⟩) 2) 25))).next) c.head (six c.head a6 c6):=ho7.to fun n hn hl=>⟨by have a1:H5.next+8≤n:=hn.1;rw[get_put,if_neg (by omega)];exact hx8.keep n hl,⟨by have a1:H5.next+8≤n:=hn.1;omega,by rw[z06];omega⟩,by rw[z06];omega⟩
 have o2:OT (H8.put (H.next+1) (some (.row (six (wholeC c) (some ⟨H5.next+4,0,none⟩) 2) 25))) (Rg H.next (H8.put (H.next+1) (some (.row (six (wholeC c) (some ⟨H5.next+4,0,none⟩) 2) 25))).next) (toldB c.body) (six (toldB c.body) ao co):=hot.to fun n hn hl=>⟨by have a1:H3.next≤n:=hn.1;rw[get_put,if_neg (by omega)];exact k48.keep n hl,⟨by have a1:H3.next≤n:=hn.1;omega,by rw[z06];have:=k48.next;omega⟩,by rw[z06];have:=k48.next;omega⟩
 exact z2y (by decide) (by rw[get_put,if_neg (by omega)];exact hx8.get w7 g7) ⟨by omega,by rw[z06];omega⟩ hz.wf o1.1 o2.1
def RdCS (H:Heap) (S:Nat→Prop) (c:Cls) (cs:List Value):Prop:=∃ha hc ta tc a k,cs=fift c.head ha hc c.body.kind c.body.term ta tc a c.body.sub.length k c.vars∧RepT H c.head (six c.head ha hc)∧RepBI H S c.body (eightT c.body.kind c.body.term ta tc a c.body.sub.length k)
theorem RdCS.rd {H:Heap}{S:Nat→Prop}{c:Cls}{cs:List Value}(h:RdCS H S c cs):RdC H c cs:=by
 obtain⟨ha,hc,ta,tc,a,k,h1,h2,h3⟩:=h;exact⟨ha,hc,ta,tc,a,k,h1,h2,h3.rep⟩
theorem RdC.bi {A H:Heap}{c:Cls}{cs:List Value}(h:RdC A c cs) (hx:HX A H) (hw:A.wf):RdCS H (fun n=>n < A.next) c cs:=by
 obtain⟨ha,hc,ta,tc,a,k,h1,h2,h3⟩:=h;exact⟨ha,hc,ta,tc,a,k,h1,h2.mono hx hw,(h3.bi hw).to fun n hn hl=>⟨hx.keep n hl,hn,Zh hl hx.next⟩⟩
set_option maxHeartbeats 8000000 in
theorem zjq {c:Cls}{cs:List Value}{S:Nat→Prop}{H:Heap}(hf:FewB 1000000 c.body) (r:RdCS H S c cs) (hS:∀n,S n→n < H.next) (hw:H.wf) :
  EvF Tryz.prog okT 19 [.agg ⟨cs⟩] H fun v H'=>HX H H'∧∃out,v=.tuple ⟨[.agg ⟨out⟩,.int .i64 (checkC c)]⟩∧RepS H' (fun n=>S n∨(H.next≤n∧n < H'.next)) (wholeV c) out:=by
 have r0:=r.rd;obtain⟨ha,hc,ta,tc,a,k,rfl,rh,rb⟩:=r;refine EvF.enter rfl Tryz.func19 (by decide) rfl ?_;(repeat refine EvC.seq ?_);refine EvC.reg ?_;simp only[sB,initTm,dBox,dAlloc,Value.cells,one,zr25];obtain⟨H2,e2,hx2,g1,g2,hn2,hw2⟩:=new2 hw (.row (fift c.head ha hc c.body.kind c.body.term ta tc a c.body.sub.length k c.vars) 32) (.row zero6 25);simp only[e2];clear e2;have q1:=z0u g1;(repeat refine EvC.seq ?_);refine EvC.reg ?_;simp only[sB,Za,reduceCtorEq,ld32,cl21,q1];refine(zbk hf (r0.mono hx2 hw) hw2).mono ?_;rintro v H3 ⟨rfl,hx3⟩;have g1:=hx3.get hw2 g1;have g2:=hx3.get hw2 g2;have hx:=hx2.trans hx3;have w3:=hx.wf;have n3:=hx3.next;have q1:=z0u g1;try simp only[]
 by_cases hg:GoodC c;rotate_left
 ·have hne:checkC c≠0:=fun h=>hg (za3 h)
  repeat' (first|refine EvC.seq ?_|(refine EvC.ret ?_;try simp only[z04,z02])|(refine EvC.reg ?_;simp only[sB,Za,Zb,Value.cells,one,reduceCtorEq,layC,bd25,st25,z1j hne,g2])|(refine EvC.condT ?_ ?_;simp only[sB,Za,reduceCtorEq];refine z07 ?_))
  refine z09 rfl (by simp only[sB,Za,reduceCtorEq];rfl) (by simp only[sB,Zb,cutC,ld25];rfl) (by simp only[sG,Za,reduceCtorEq]) ⟨hx.pt (i:=H.next+1) (by omega) g2 _,_,rfl,?_⟩;rw[wholeV,if_neg hg];exact RepS.leaf z52 rfl (Zs _) fun _=>rfl
 rw[hg.chk];(repeat refine EvC.seq ?_);refine EvC.reg ?_;simp only[sB,Za,reduceCtorEq,z0z rfl];refine EvC.condF (by simp only[sB,Za,reduceCtorEq]) ?_;(try refine EvC.skip ?_);(try simp only[z00,z01]);(repeat refine EvC.seq ?_);refine EvC.drw [([(0,0),(1,0)],some 2),([(3,0),(4,0)],some 5),([],some 6),([],some 7),([(8,4)],none)] (by kernel_rfl) ?_;simp only[sD,sB,Za,Zb,reduceCtorEq,z4t,ld25,cl6,isAlloc,isRead,q1];have hb:HX H3 ⟨H3.next+9,H3.t⟩:=(HX.refl w3).bump 9;refine(z3o ((rh.mono hx hw).mono hb w3) (few6 hg.head) hb.wf).mono ?_;rintro v H4 ⟨hx4,out,rfl,hot⟩;obtain⟨a4,c4,cells4,rfl,-⟩:=hot.rep.six;have k34:=hb.trans hx4;have w4:=hx4.wf;have hx4':=hx.trans k34;have q14:=z0u (k34.get w3 g1)
 repeat' (first|(refine z0h ?_;simp only[sV,sD,sB,Za,reduceCtorEq,z6q,ld30,cl47,q1,q14,isAlloc,isRead]))
 refine(z8k (Zf _) (RepBI.to (S':=S) rb fun n hn hl=>⟨hx4'.keep n hl,hn,Zh hl hx4'.next⟩) hf (fun n hn=>Zh (hS n hn) hx4'.next) w4).mono ?_;rintro v H5 ⟨hx5,out2,rfl,hrT⟩;obtain⟨a5,c5,cells5,rfl,-⟩:=hrT.rep.six
 repeat' (first|(refine z0h ?_;simp only[sD,sB,Za,reduceCtorEq,cl23]))
 refine(zln hx5.wf).mono ?_;rintro v H6 ⟨p,rfl,gp,hp1,hp2,hx6⟩;have k36:=(k34.trans hx5).trans hx6;have g2:=k36.get w3 g2
 repeat' (first|(refine EvC.ret ?_)|(refine z0h ?_;simp only[sD,sB,Za,Zb,one,reduceCtorEq,st25,g2,isAlloc,isRead]))
 have hz:=(hx.trans k36).pt (i:=H.next+1) (by omega) g2 (some (.row (six (wholeC c) (some ⟨p,0,none⟩) 2) 25));refine z09 rfl (by simp only[sB,Za,reduceCtorEq];rfl) (by simp only[sB,Zb,cutC,ld25];rfl) (by simp only[sG,Za,reduceCtorEq]) ⟨hz,six (wholeC c) (some ⟨p,0,none⟩) 2,rfl,?_⟩;rw[wholeV,if_pos hg];have k46:=hx5.trans hx6;have m0:=hx.next;have m1:H3.next+9≤H4.next:=hx4.next;have m5:=hx5.next;refine z2y (by decide) (by rw[get_put,if_neg (by omega)];exact gp) (.inr ⟨by omega,by rw[z06];omega⟩) hz.wf (hot.1.to fun n hn hl=>⟨by have a1:H3.next+9≤n:=hn.1;rw[get_put,if_neg (by omega)];exact k46.keep n hl,.inr ⟨by have a1:H3.next+9≤n:=hn.1;omega,by rw[z06];exact Zh hl k46.next⟩,by rw[z06];exact Zh hl k46.next⟩) (hrT.to fun n hn hl=>⟨?_,?_,by rw[z06];exact Zh hl hx6.next⟩)
 ·rw[get_put,if_neg]
  ·exact hx6.keep n hl
  ·rcases hn with hn|hn
   ·have:=hS n hn;omega
   ·omega
 ·rcases hn with hn|hn
  ·exact .inl hn
  ·exact .inr ⟨by omega,by rw[z06];exact Zh hl hx6.next⟩
def LB (H:Heap) (T:TypeId) (E:Nat→Prop) (l:List Bdy) (a:Option Addr) (c:Nat):Prop :=
 (l=[]∧a=none∧c=0)∨∃(b:Nat) (cells:List Value),a=some ⟨b,0,none⟩∧l.length≤c∧c≤maxLen∧H.get b=some (.row cells T)∧¬E b∧b < H.next∧l.length*8≤cells.length∧∀i u,l[i]?=some u→RepBI H E u ((cells.drop (i*8)).take 8)
section
variable {H H':Heap}{T:TypeId}{E E':Nat→Prop}{l:List Bdy}{a:Option Addr}{c:Nat}
theorem LB.nil:LB H T E [] none 0:=.inl ⟨rfl,rfl,rfl⟩
theorem LB.to (h:LB H T E l a c) (hk:∀n,E n∨a=some ⟨n,0,none⟩→n < H.next→H'.get n=H.get n) (hn:H.next≤H'.next) (hs:∀n,E n→E' n) (hne:∀n,a=some ⟨n,0,none⟩→¬E' n):LB H' T E' l a c:=by
 rcases h with h|⟨b,cells,rfl,h1,h2,h3,h4,h5,h6,h7⟩
 ·exact .inl h
 ·exact .inr ⟨b,cells,rfl,h1,h2,(hk b (.inr rfl) h5).trans h3,hne b rfl,Zh h5 hn,h6,fun i u hu=>(h7 i u hu).to fun n hn' hl=>⟨hk n (.inl hn') hl,hs n hn',Zh hl hn⟩⟩
theorem LB.push {P:Program}{t:TypeId}(hp:apOk P t T 8) {E2:Nat→Prop}{u:Bdy}{cs:List Value}{c1:Nat}{ad:Addr}(h:LB H T E l a c) (hw:H.wf) (hl:H.load ad (1*8)=some cs) (hu:RepBI H E2 u cs) (hE:∀n,E2 n→a≠some ⟨n,0,none⟩)
  (hEl:∀n,E n→n < H.next) (hE2l:∀n,E2 n→n < H.next) (hm:l.length+1≤most) (h2:∀n,E n∨E2 n→E' n) (hnew:¬E' H.next) :
  ∃H2,dAp P #[t,t] (.slice a l.length c) (.slice (some ad) 1 c1) H=some (.val (.slice (some ⟨H.next,0,none⟩) (l.length+1) (l.length+1)) H2)∧LB H2 T E' (l++[u]) (some ⟨H.next,0,none⟩) (l.length+1)∧HK (fun n=>a=some ⟨n,0,none⟩) H H2∧H2.next=H.next+1:=by
 have hmax:l.length+1≤maxLen:=Zo hm (by simp [most,maxLen]);obtain⟨hone,hlen⟩:=hu.rep.ones;rcases h with ⟨rfl,rfl,rfl⟩|⟨b,cells,rfl,h1,h2',h3,h4,h5,h6,h7⟩
 ·have hx:=(HX.refl hw).new (some (.row cs T));refine⟨_,z4r hp (by omega) hm hl hone,?_,hx.hk _,rfl⟩;refine .inr ⟨H.next,cs,rfl,Zg _,hmax,z0o,hnew,Zf _,by simp [hlen],fun i v hv=>?_⟩
  match i,hv with
  |0,hv =>
   cases hv;rw[Zu,List.drop_zero,Zi (by omega)];exact hu.to fun n hn hl=>⟨hx.keep n hl,h2 n (.inr hn),Nat.lt_succ_of_lt hl⟩
 ·have hcells:(cells.take (l.length*8)).all one=true:=zrr _ h6 fun i hi=>(h7 i _ (Zc hi)).rep.ones.1
  have hk:HK (fun n=>some (⟨b,0,none⟩:Addr)=some ⟨n,0,none⟩) H ((H.put b none).new (some (.row (cells.take (l.length*8)++cs) T))):=((HK.refl (S:=fun n=>some (⟨b,0,none⟩:Addr)=some ⟨n,0,none⟩) hw).put (.inl rfl) h5 none).new _;have hkeep:∀n,n < H.next→n≠b→((H.put b none).new (some (.row (cells.take (l.length*8)++cs) T))).get n=H.get n:=fun n hn hne=>by
   rw[z1s (by rw[z06];exact hn),z30 hne]
  refine⟨_,z4c hp (by omega) hm hl hone h3 h6 hcells,?_,hk,rfl⟩;have htl:(cells.take (l.length*8)).length=l.length*8:=by rw[Zl];omega
  refine .inr ⟨H.next,cells.take (l.length*8)++cs,rfl,by simp,hmax,z0o,hnew,Zf _,by simp [hlen,htl];omega,fun i v hv=>?_⟩;by_cases hi:i < l.length
  ·rw[List.getElem?_append_left hi] at hv;rw[zq0 hi _ h6];exact(h7 i v hv).to fun n hn hl=>⟨hkeep n hl fun e=>h4 (e ▸ hn),h2 n (.inl hn),Nat.lt_succ_of_lt hl⟩
  ·have hil:i=l.length:=by
    have:=(List.getElem?_eq_some_iff.1 hv).1;simp at this;omega
   subst hil;simp at hv;subst hv;have e8:((cells.take (l.length*8)++cs).drop (l.length*8)).take 8=cs:=by rw[List.drop_left' htl,Zi (by omega)]
   rw[e8];exact hu.to fun n hn hl=>⟨hkeep n hl fun e=>hE n hn (by rw[e]),h2 n (.inr hn),Nat.lt_succ_of_lt hl⟩
theorem LB.mk {k:Int}{t:Tm}{ts:List Value}(h:LB H T E l a c) (hk:i64 k) (ht:RepS H E' t ts) (he:∀n,E n→E' n) (hb:∀n,a=some ⟨n,0,none⟩→E' n):RepBI H E' (.mk k t l) (eight k ts a l.length c):=by
 rcases h with ⟨rfl,rfl,rfl⟩|⟨b,cells,rfl,h1,h2,h3,h4,h5,h6,h7⟩
 ·exact .mk k t [] ts none 0 (fun _=>[]) hk ht (Zg _) (Zs _) (fun _=>⟨rfl,rfl⟩) (fun i ad hi=>by simp at hi) (fun i u hu=>by simp at hu)
 ·refine .mk k t l ts (some ⟨b,0,none⟩) c (fun i=>(cells.drop (i*8)).take 8) hk ht h1 h2 (fun h=>by cases h) (fun i ad hi ha=>?_) (fun i u hu=>(h7 i u hu).to fun n hn hl=>⟨rfl,he n hn,hl⟩);cases ha;refine⟨rfl,hb b rfl,h5,?_⟩;have hle:i*8+8≤l.length*8:=by omega
  unfold Heap.load Heap.cells;simp only[h3,Nat.zero_add];rw[if_pos (by rw[Zr,Zl,List.length_drop];omega)]
end
set_option maxHeartbeats 8000000 in
theorem zot {m:Nat}:∀{u:Bdy}{cs:List Value}{H:Heap},SizeOf.sizeOf u < m→RepB H u cs→FewB 1000000 u→H.wf →
  EvF Tryz.prog okT 53 [.agg ⟨cs⟩] H fun v H'=>HX H H'∧∃out,v=.agg ⟨out⟩∧RepBI H' (Rg H.next H'.next) u out:=by
 induction m with
 |zero=>intro u cs H h;omega
 |succ m ih =>
 intro u cs H hsz r hfew hw;have hlen:=hfew.len;have apB:apOk Tryz.prog 28 30 8:=ap28;obtain⟨ts,a,c,cells,rfl,hk,rt,rl⟩:=r.inv;obtain⟨ta,tc,cellst,rfl,-⟩:=rt.inv;show EvF Tryz.prog okT 53 [.agg ⟨eightT u.kind u.term ta tc a u.sub.length c⟩] H _;refine EvF.enter rfl Tryz.func53 (by decide) rfl ?_;(repeat refine EvC.seq ?_);refine EvC.reg ?_;simp (disch:=first|omega|rfl) only[sB,initTm,dBox,dAlloc,Value.cells,one,zr30];obtain⟨H2,e2,hx2,g1,g2,hn2,hw2⟩:=new2 hw (.row (eightT u.kind u.term ta tc a u.sub.length c) 30) (.row zero8 30);simp only[e2];clear e2;have q1:=row8 g1;(repeat refine EvC.seq ?_);refine EvC.drw [([(2,0),(3,0)],some 4),([(0,0),(1,0),(5,1),(6,0)],some 7),([],none)] (by kernel_rfl) ?_;simp only[sD,sB,Za,Zb,reduceCtorEq,z5r,ld25,cl6,isAlloc,isRead,q1];have hb:HX H2 ⟨H2.next+8,H2.t⟩:=(HX.refl hw2).bump 8;refine(z3o ((rt.mono hx2 hw).mono hb hw2) hfew.term hb.wf).mono ?_;rintro v H3 ⟨hx3,ot,rfl,hot⟩;obtain⟨oa,oc,cellso,rfl,-⟩:=hot.rep.six;have k23:=hb.trans hx3;have q13:=row8 (k23.get hw2 g1)
 repeat' (first|refine EvC.seq ?_|refine EvC.block ?_|(refine EvC.reg ?_;simp only[sA])|(refine z0h ?_;simp (disch:=first|omega|rfl) only[sV,sD,sB,dAlloc,Za,Zb,Value.cells,one,reduceCtorEq,Zk,layC,zr30,z1f,ld3,bd30,st30,q1,q13,isAlloc,isRead,dalloc]))
 obtain⟨H4,e4⟩:∃H4,(H3.put (H2.next+6) (some (.row zero8 30))).put (H2.next+6) (some (.row (eightT u.kind u.term oa oc none 0 0) 30))=H4:=⟨_,rfl⟩
 have n3:H2.next+8≤H3.next:=hx3.next;have hx4:HX H H4:=by rw[←e4];exact((hx2.trans k23).put (i:=H2.next+6) (by omega) (by omega) _).put (i:=H2.next+6) (by omega) (by rw[z06];omega) _
 have n4:H4.next=H3.next:=by rw[←e4];rfl
 have g1:H4.get H.next=some (.row (eightT u.kind u.term ta tc a u.sub.length c) 30):=by rw[←e4,get_put,if_neg (by omega),get_put,if_neg (by omega)];exact k23.get hw2 g1
 have g2:H4.get (H.next+1)=some (.row zero8 30):=by rw[←e4,get_put,if_neg (by omega),get_put,if_neg (by omega)];exact k23.get hw2 g2
 have g3:H4.get (H2.next+6)=some (.row (eightT u.kind u.term oa oc none 0 0) 30):=by rw[←e4,get_put,if_pos rfl]
 have ho:RepS H4 (Rg (H2.next+8) H3.next) u.term (six u.term oa oc):=hot.1.to fun n hn hl=>⟨by have a1:H2.next+8≤n:=hn.1;rw[←e4,get_put,if_neg (by omega),get_put,if_neg (by omega)],hn,by omega⟩
 simp only[e4];clear e4;have hm:=rl.cap;have hl:=rl.len;have hmx:u.sub.length≤9223372036854775807:=by omega
 refine EvC.loop (fun k' st=>∃tm G i ao co,st=⟨tm,[],G⟩∧k'=u.sub.length - i∧i≤u.sub.length∧tm.get 1=some (.pointer (some ⟨H.next,0,none⟩))∧tm.get 2=some (.pointer (some ⟨H.next+1,0,none⟩))∧tm.get 3=some (.pointer (some ⟨H2.next+6,0,none⟩))∧tm.get 4=some (.int .i64 (i:Nat)) ∧
   G.get H.next=some (.row (eightT u.kind u.term ta tc a u.sub.length c) 30)∧G.get (H.next+1)=some (.row zero8 30)∧G.get (H2.next+6)=some (.row (eightT u.kind u.term oa oc ao i co) 30) ∧
   RepS G (Rg (H2.next+8) H3.next) u.term (six u.term oa oc)∧LB G 30 (fun n=>(H3.next≤n∧n < G.next)∧ao≠some ⟨n,0,none⟩) (u.sub.take i) ao co∧(∀n,ao=some ⟨n,0,none⟩→H3.next≤n∧n < G.next)∧H3.next≤G.next∧HX H G) ?_ u.sub.length _ ?_
 rotate_left
 ·exact⟨_,_,0,none,0,rfl,rfl,Zs _,(by simp only[sG,Za,reduceCtorEq]),(by simp only[sG,Za,reduceCtorEq]),(by simp only[sG,Za,reduceCtorEq]),(by simp only[sB,Za,reduceCtorEq];rfl),g1,g2,g3,ho,.nil,fun n h=>(by cases h),by omega,hx4⟩
 rintro k' st ⟨tm,G,i,ao,co,rfl,rfl,hi,t1,t2,t3,t4,g1,g2,g3,hoG,hlb,hao,hnG,hxG⟩;have q1:=row8 g1;have q3:=row8 g3;have wG:=hxG.wf;by_cases hlt:i < u.sub.length;rotate_left
 ·obtain rfl:i=u.sub.length:=by omega
  rw[List.take_length] at hlb
  repeat' (first|refine EvC.seq ?_|(refine EvC.exit ?_;try simp only[sB])|(refine EvC.ret ?_)|(refine EvC.reg ?_;simp (disch:=first|omega|rfl) only[sB,Za,Zb,one,st30,z1k,ld28,ln28,ld30,t1,t2,t3,t4,q1,q3,decn hlt,g2])|(refine EvC.condF ?_ ?_;simp only[sB,Za];refine z07 ?_))
  have hz:=hxG.pt (i:=H.next+1) (by omega) g2 (some (.row (eightT u.kind u.term oa oc ao u.sub.length co) 30));refine z0a rfl (by simp only[sB,Za,t2];rfl) (by simp only[sB,Zb,cutC,ld30];rfl) ⟨hz,_,rfl,?_⟩;obtain⟨ku,tu,lu⟩:=u;refine LB.mk (E':=Rg H.next (G.put (H.next+1) (some (.row (eightT ku tu oa oc ao lu.length co) 30))).next) (hlb.to (E':=fun n=>(H3.next≤n∧n < G.next)∧ao≠some ⟨n,0,none⟩) (fun n hn hl=>?_) (by rw[z06];exact Zg _) (fun n hn=>hn) fun n hn h=>h.2 hn) hk (hoG.to fun n hn hl=>?_) (fun n hn=>?_) fun n hn=>?_
  ·rw[get_put,if_neg];rcases hn with hn|hn
   ·omega
   ·have:=hao n hn;omega
  ·have a1:H2.next+8≤n:=hn.1;exact⟨by rw[get_put,if_neg (by omega)],⟨by omega,by rw[z06];exact hl⟩,by rw[z06];exact hl⟩
  ·exact⟨by omega,by rw[z06];omega⟩
  ·have:=hao n hn;exact⟨by omega,by rw[z06];omega⟩
 obtain⟨b,o,rfl,hld,hr1⟩:=rl.el hlt;obtain⟨ua,uc,va,vc,hc1⟩:=hr1.eight;rw[hc1] at hr1 hld;have hld1:=hxG.load hw hld
 repeat' (first|refine EvC.seq ?_|refine EvC.block ?_|(refine EvC.skip ?_;try simp only[z00])|(refine EvC.reg ?_;simp only[sB,Za,z1k,ld28,ln28,t1,t4,q1,decl hlt])|(refine EvC.drw (id:=5) [([(2,0),(3,0),(4,0),(5,0),(6,0)],some 7),([(0,0),(1,0),(8,1)],some 9),([(10,2)],some 11),([],none)] ?_ ?_;kernel_rfl;simp (disch:=first|omega|rfl) only[sD,sB,Za,Zb,reduceCtorEq,z1k,ld28,ia28,ld30,cl53,t1,t4,q1,hld1,isAlloc,isRead])|(refine EvC.condT ?_ ?_;simp only[sB,Za];refine z07 ?_))
 have hs:=u.size _ (Zx hlt);have hbG:HX G ⟨G.next+12,G.t⟩:=(HX.refl wG).bump 12;refine(ih (u:=u.sub[i]) (by omega) ((hr1.mono hxG hw).mono hbG wG) (hfew.sub _ (Zx _)) hbG.wf).mono ?_;rintro v H5 ⟨hx5,out,rfl,hrep⟩;obtain⟨xa,xc,ya,yc,cells5,rfl,-⟩:=hrep.inv;have k5:=hbG.trans hx5;have q15:=row8 (k5.get wG g1);have q35:=row8 (k5.get wG g3);have q3b:=row8 (hbG.get wG g3);have w5:=hx5.wf;have n5:G.next+12≤H5.next:=hx5.next;obtain⟨H6,e6⟩:∃H6,H5.put (G.next+8) (some (.row (eightT u.sub[i].kind u.sub[i].term xa xc ya u.sub[i].sub.length yc) 30))=H6:=⟨_,rfl⟩
 have hx6:HX G H6:=by rw[←e6];exact k5.put (i:=G.next+8) (by omega) (by omega) _
 have n6:H6.next=H5.next:=by rw[←e6];rfl
 have g6:H6.get (G.next+8)=some (.row (eightT u.sub[i].kind u.sub[i].term xa xc ya u.sub[i].sub.length yc) 30):=by rw[←e6,get_put,if_pos rfl]
 have w6:=hx6.wf;have hrep6:RepBI H6 (Rg (G.next+12) H5.next) u.sub[i] (eightT u.sub[i].kind u.sub[i].term xa xc ya u.sub[i].sub.length yc):=hrep.to fun n hn hl=>⟨by have a1:G.next+12≤n:=hn.1;rw[←e6,get_put,if_neg (by omega)],hn,by omega⟩
 have etl:(u.sub.take i).length=i:=by rw[Zl];omega
 obtain⟨H7,e7,hlb7,hk7,hn7⟩:=LB.push (P:=Tryz.prog) (t:=28) (E':=fun n=>(H3.next≤n∧n < H6.next+1)∧(some ⟨H6.next,0,none⟩:Option Addr)≠some ⟨n,0,none⟩) (E2:=Rg (G.next+12) H5.next) (u:=u.sub[i]) (c1:=1) apB
  (hlb.to (H':=H6) (E':=fun n=>(H3.next≤n∧n < G.next)∧ao≠some ⟨n,0,none⟩) (fun n _ hl=>hx6.keep n hl) hx6.next (fun n hn=>hn) fun n hn h=>h.2 hn) w6 (ld1 g6 rfl) hrep6
  (fun n hn ha=>by have:=hao n ha;have a1:G.next+12≤n:=hn.1;omega) (fun n hn=>by have:=hn.1.2;omega) (fun n hn=>by have a1:n < H5.next:=hn.2;omega) (by rw[etl];unfold most;omega) (fun n hn=>by
   rcases hn with hn|hn
   ·exact⟨⟨hn.1.1,by omega⟩,fun e=>by injection e with e;injection e with e;have:=hn.1.2;omega⟩
   ·have a1:G.next+12≤n:=hn.1;have a2:n < H5.next:=hn.2;exact⟨⟨by omega,by omega⟩,fun e=>by injection e with e;injection e with e;omega⟩) (fun h=>h.2 rfl)
 rw[etl] at e7 hlb7;have ha:∀n,n < H3.next→ao≠some ⟨n,0,none⟩:=fun n hn h=>by have:=hao _ h;omega
 have g17:=hk7.get w6 (hx6.get wG g1) (ha _ (by omega));have g27:=hk7.get w6 (hx6.get wG g2) (ha _ (by omega));have g37:=hk7.get w6 (hx6.get wG g3) (ha _ (by omega));have hx7:HX H H7:=(hxG.trans hx6).then hk7 fun n hn h=>by have:=hao _ h;omega
 have ho7:RepS H7 (Rg (H2.next+8) H3.next) u.term (six u.term oa oc):=hoG.to fun n hn hl=>⟨by
  have a1:n < H3.next:=hn.2;rw[hk7.keep n (by omega) (ha n a1)];exact hx6.keep n hl,hn,by omega⟩
 have ee:dAp Tryz.prog #[28,28] (.slice ao i co) (.slice (some ⟨G.next+8,0,none⟩) 1 1) (H5.put (G.next+8) (some (.row (eightT u.sub[i].kind u.sub[i].term xa xc ya u.sub[i].sub.length yc) 30)))=some (.val (.slice (some ⟨H6.next,0,none⟩) (i+1) (i+1)) H7):=by rw[e6];exact e7
 repeat' (first|(refine EvC.reg ?_;simp (disch:=first|omega|rfl) only[sB,Za,t4,z0b])|(refine z0h ?_;simp (disch:=first|omega|rfl) only[sV,sD,sB,Za,Zb,Value.cells,one,reduceCtorEq,layC,z1k,ld28,zdx,st28,q35,q3b,t3,ee,g37,isAlloc,isRead,dalloc]))
 have lp:H2.next+6 < H7.next:=by omega
 refine⟨u.sub.length - (i+1),by omega,_,_,i+1,some ⟨H6.next,0,none⟩,i+1,rfl,rfl,by omega,(by simp only[sG,Za,t1]),(by simp only[sG,Za,t2]),(by simp only[sG,Za,t3]),(by simp only[sB,Za];rfl),by rw[get_put,if_neg (by omega)];exact g17,by rw[get_put,if_neg (by omega)];exact g27,by rw[get_put,if_pos rfl],ho7.to fun n hn hl=>⟨by have a1:H2.next+8≤n:=hn.1;rw[get_put,if_neg (by omega)],hn,by rw[z06];exact hl⟩,?_,fun n h=>by injection h with h;injection h with h;rw[z06];omega,by rw[z06];omega,hx7.pt (by omega) g37 _⟩;rw[←ZA hlt];refine hlb7.to (fun n hn hl=>?_) (by rw[z06];exact Zg _) (fun n hn=>⟨⟨hn.1.1,by rw[z06,hn7];exact hn.1.2⟩,hn.2⟩) fun n h hn=>hn.2 h
 rw[get_put,if_neg];rcases hn with hn|hn
 ·omega
 ·injection hn with hn;injection hn with hn;omega
set_option maxHeartbeats 8000000 in
theorem zou {c:Cls}{cs:List Value}{H:Heap}(hf:FewB 1000000 c.body) (hh:Few 1000000 c.head) (r:RdC H c cs) (hw:H.wf) :
  EvF Tryz.prog okT 15 [.agg ⟨cs⟩] H fun v H'=>HX H H'∧∃out,v=.agg ⟨out⟩∧RdC H' c out:=by
 obtain⟨ha,hc,ta,tc,a,k,rfl,rh,rb⟩:=r;refine EvF.enter rfl Tryz.func15 (by decide) rfl ?_;(repeat refine EvC.seq ?_);refine EvC.reg ?_;simp only[sB,initTm,dBox,dAlloc,Value.cells,one,zr32];obtain⟨H2,e2,hx2,g1,g2,hn2,hw2⟩:=new2 hw (.row (fift c.head ha hc c.body.kind c.body.term ta tc a c.body.sub.length k c.vars) 32) (.row zero15 32);simp only[e2];clear e2;have q1:=z0u g1
 repeat' (first|refine EvC.seq ?_|(refine EvC.drw [([(0,0),(1,0)],some 2),([(3,0),(4,0)],some 5),([(6,0),(7,0),(8,2)],some 9),([],none)] ?_ ?_;kernel_rfl;simp only[sD,sB,Za,Zb,reduceCtorEq,z4t,ld25,cl6,q1,isAlloc,isRead]))
 have hb:HX H2 ⟨H2.next+10,H2.t⟩:=(HX.refl hw2).bump 10;refine(z3o ((rh.mono hx2 hw).mono hb hw2) hh hb.wf).mono ?_;rintro v H3 ⟨hx3,ot,rfl,hot⟩;obtain⟨oa,oc,cellso,rfl,-⟩:=hot.rep.six;have k23:=hb.trans hx3;have q13:=z0u (k23.get hw2 g1);have w3:=hx3.wf
 repeat' (first|(refine z0h ?_;simp only[sV,sD,sB,Za,reduceCtorEq,z6q,ld30,cl53,q1,q13,isAlloc,isRead]))
 refine(zot (Zf _) ((rb.mono hx2 hw).mono k23 hw2) hf w3).mono ?_;rintro v H4 ⟨hx4,out,rfl,hrep⟩;obtain⟨xa,xc,ya,yc,cells5,rfl,-⟩:=hrep.inv;have k24:=k23.trans hx4;have q14:=z0u (k24.get hw2 g1);have g24:=k24.get hw2 g2;have n3:H2.next+10≤H3.next:=hx3.next
 repeat' (first|(refine EvC.ret ?_)|(refine z0h ?_;simp only[sV,sD,sB,Za,Zb,Value.cells,one,reduceCtorEq,Zk,layC,zdw,ld3,bd32,st32,q1,q13,q14,g24,isAlloc,isRead]))
 have hz:=(hx2.trans k24).pt (i:=H.next+1) (by omega) g24 (some (.row (fift c.head oa oc c.body.kind c.body.term xa xc ya c.body.sub.length yc c.vars) 32));refine z0a rfl (by simp only[sB,Za,reduceCtorEq];rfl) (by simp only[sB,Zb,cutC,ld32]) ⟨hz,_,rfl,oa,oc,xa,xc,ya,yc,rfl,?_,?_⟩
 ·exact(hot.1.to (S2:=fun _=>True) fun n hn hl=>⟨by have a1:H2.next+10≤n:=hn.1;rw[get_put,if_neg (by omega)];exact hx4.keep n hl,trivial,by rw[z06];exact Zh hl hx4.next⟩).rep
 ·exact(hrep.to (S':=fun _=>True) fun n hn hl=>⟨by have a1:H3.next≤n:=hn.1;rw[get_put,if_neg (by omega)],trivial,by rw[z06];exact hl⟩).rep
set_option maxHeartbeats 16000000 in
theorem zab {c:Cls}{cs:List Value}{H:Heap}(r0:RdC H c cs) (hf:FewB 1000000 c.body) (hh:Few 1000000 c.head) (hw:H.wf):EvF Tryz.prog okT 4 [.agg ⟨cs⟩] H fun v _=>v=.bool true:=by
 have r:=r0;obtain⟨ha,hc,ta,tc,a,k,rfl,rh,rb⟩:=r;refine EvF.enter rfl Tryz.func4 (by decide) rfl ?_;(repeat refine EvC.seq ?_);refine EvC.reg ?_;simp (disch:=first|omega|rfl) only[sB,initTm,dBox,Value.cells,one];obtain⟨H1,e1,hx1,g1,hn1,w1⟩:=new1 hw (.row (fift c.head ha hc c.body.kind c.body.term ta tc a c.body.sub.length k c.vars) 32);simp only[e1];clear e1;(repeat refine EvC.seq ?_);refine EvC.reg ?_;simp only[sB,Za,reduceCtorEq,cl5];refine(show EvF Tryz.prog okT 5 [] H1 _ from znl w1).mono ?_;rintro v H2 ⟨rfl,k2⟩;have g1:=k2.get w1 g1;have hx2:=hx1.trans k2;have w2:=hx2.wf;have q1:=z0u g1;try simp only[]
 (repeat refine EvC.seq ?_);refine EvC.reg ?_;simp only[sB,dAlloc,Za,reduceCtorEq,ld32,cl15,zr32,q1];refine(zou hf hh (r0.mono hx2 hw) w2).mono ?_;rintro v H3 ⟨k3,out,rfl,rl⟩;have rl0:=rl;obtain⟨la,lc,xa,xc,ya,yc,rfl,rlh,rlb⟩:=rl0;have w3:=k3.wf;have g1:=k3.get w2 g1;try simp (disch:=first|omega|rfl) only[sB,Zb,one,st32]
 obtain⟨H4,e4,k4,g6,hn4,w4⟩:=z0l w3 (.row zero15 32) (.row (fift c.head la lc c.body.kind c.body.term xa xc ya c.body.sub.length yc c.vars) 32);simp only[e4];clear e4;have g1:=k4.get w3 g1;have hx4:=(hx2.trans k3).trans k4;have q6:=z0u g6;(repeat refine EvC.seq ?_);refine EvC.reg ?_;simp only[sB,Za,reduceCtorEq,z6q,ld30,cl16,q6];refine(zcv hf (rlb.mono k4 w3) w4).mono ?_;rintro v H5 ⟨k5,outA,rfl,ra⟩;have ra:=ra.rep;obtain⟨aa,ac,cellsA,rfl,-⟩:=ra.six;have w5:=k5.wf;have g1:=k5.get w4 g1;have g6:=k5.get w4 g6;try simp (disch:=first|omega|rfl) only[sB,dAlloc,Za,Zb,one,reduceCtorEq,zr25,st25]
 obtain⟨H6,e6,k6,g9,hn6,w6⟩:=z0l w5 (.row zero6 25) (.row (six (termV c.body) aa ac) 25);simp only[e6];clear e6;have k46:=k5.trans k6;have g1:=k6.get w5 g1;have g6:=k6.get w5 g6;have hx6:=hx4.trans k46;have q1:=z0u g1;(repeat refine EvC.seq ?_);refine EvC.reg ?_;simp only[sB,Za,reduceCtorEq,z6q,ld30,cl17,q1];refine(zif hf (rb.mono hx6 hw) w6).mono ?_;rintro v H7 ⟨k7,outW,rfl,rw7⟩;obtain⟨wa,wc,cellsW,rfl,-⟩:=rw7.six;have w7:=k7.wf;have g1:=k7.get w6 g1;have g6:=k7.get w6 g6;have g9:=k7.get w6 g9;try simp (disch:=first|omega|rfl) only[sB,dAlloc,Za,Zb,one,reduceCtorEq,zr25,st25]
 obtain⟨H8,e8,k8,g12,hn8,w8⟩:=z0l w7 (.row zero6 25) (.row (six (termV c.body) wa wc) 25);simp only[e8];clear e8;have k68:=k7.trans k8;have g1:=k8.get w7 g1;have g6:=k8.get w7 g6;have q9:=row6 (k8.get w7 g9);have q12:=row6 g12;(repeat refine EvC.seq ?_);refine EvC.reg ?_;simp only[sB,Za,reduceCtorEq,ld25,cl12,q9,q12];refine(z3z (ra.mono (k6.trans k68) w5) (rw7.mono k8 w7) w8).mono ?_;rintro v H9 ⟨rfl,k9⟩;have w9:=k9.wf;have g1:=k9.get w8 g1;have g6:=k9.get w8 g6;have q6:=z0u g6;try simp only[]
 (repeat refine EvC.seq ?_);refine EvC.reg ?_;simp only[sB,Za,reduceCtorEq,ld32,cl18,q6];have rl9:=rl.mono (k4.trans (k46.trans (k68.trans k9))) w3;refine(zbl hf rl9 w9).mono ?_;rintro v H10 ⟨k10,outB,rfl,hB⟩;obtain⟨ba,bc,hbf,hB2⟩:∃ba bc,outB=six (wholeV c) ba bc∧RepT H10 (wholeV c) outB:=by
  rcases hB with ⟨hg,rfl⟩|⟨hg,p,a1,c1,a2,c2,rfl,-,-,-,h⟩
  ·rw[wholeV,if_neg hg];exact⟨none,0,rfl,z7c⟩
  ·rw[wholeV,if_pos hg];exact⟨_,_,rfl,h.rep⟩
 subst hbf;have w10:=k10.wf;have g1:=k10.get w9 g1;have g6:=k10.get w9 g6;try simp (disch:=first|omega|rfl) only[sB,dAlloc,Za,Zb,one,reduceCtorEq,zr25,st25]
 obtain⟨H11,e11,k11,g14,hn11,w11⟩:=z0l w10 (.row zero6 25) (.row (six (wholeV c) ba bc) 25);simp only[e11];clear e11;have g1:=k11.get w10 g1;have g6:=k11.get w10 g6;have q6:=z0u g6;have k911:=k10.trans k11;(repeat refine EvC.seq ?_);refine EvC.reg ?_;simp only[sB,Za,reduceCtorEq,ld32,cl18,q6];refine(zbl hf (rl9.mono k911 w9) w11).mono ?_;rintro v H12 ⟨k12,outC,rfl,hC⟩;obtain⟨ca,cc,hcf,hC2⟩:∃ca cc,outC=six (wholeV c) ca cc∧RepS H12 (Rg H11.next H12.next) (wholeV c) outC:=by
  rcases hC with ⟨hg,rfl⟩|⟨hg,p,a1,c1,a2,c2,rfl,-,-,-,h⟩
  ·rw[wholeV,if_neg hg];exact⟨none,0,rfl,RepS.leaf z52 rfl (Zs _) fun _=>rfl⟩
  ·rw[wholeV,if_pos hg];exact⟨_,_,rfl,h⟩
 subst hcf;have w12:=k12.wf;have g1:=k12.get w11 g1;have g6:=k12.get w11 g6;have g14:=k12.get w11 g14;try simp (disch:=first|omega|rfl) only[sB,dAlloc,Za,Zb,one,reduceCtorEq,zr25,st25]
 obtain⟨H13,e13,k13,g16,hn13,w13⟩:=z0l w12 (.row zero6 25) (.row (six (wholeV c) ca cc) 25);simp only[e13];clear e13;have g1:=k13.get w12 g1;have g6:=k13.get w12 g6;have g14:=k13.get w12 g14;have q1:=z0u g1;have k613:=(k68.trans k9).trans (k911.trans (k12.trans k13));have hx13:=hx6.trans k613;(repeat refine EvC.seq ?_);refine EvC.reg ?_;simp only[sB,Za,reduceCtorEq,ld32,cl19,q1];refine(zjq hf (r0.bi hx13 hw) (fun n hn=>Zh hn hx13.next) w13).mono ?_;rintro v H14 ⟨k14,outD,rfl,hD⟩;obtain⟨da,dc,cellsD,rfl,-⟩:=hD.rep.six;have w14:=k14.wf;have g1:=k14.get w13 g1;have g6:=k14.get w13 g6;have g14:=k14.get w13 g14;have g16:=k14.get w13 g16;try simp (disch:=first|omega|rfl) only[sB,dAlloc,Za,Zb,one,reduceCtorEq,zr25,st25]
 obtain⟨H15,e15,k15,g17,hn15,w15⟩:=z0l w14 (.row zero6 25) (.row (six (wholeV c) da dc) 25);simp only[e15];clear e15;have g1:=k15.get w14 g1;have g6:=k15.get w14 g6;have g14:=k15.get w14 g14;have g16:=k15.get w14 g16;have q14:=row6 g14;have q17:=row6 g17;have k1115:=(k12.trans k13).trans (k14.trans k15);(repeat refine EvC.seq ?_);refine EvC.reg ?_;simp only[sB,Za,reduceCtorEq,ld25,cl12,q14,q17];refine(z3z (hB2.mono (k11.trans k1115) w10) (hD.rep.mono k15 w14) w15).mono ?_;rintro v H16 ⟨rfl,k16⟩;have w16:=k16.wf;have g1:=k16.get w15 g1;have g6:=k16.get w15 g6;have g14:=k16.get w15 g14;have g16:=k16.get w15 g16;have g17:=k16.get w15 g17;try simp only[]
 refine EvC.frame (fun tm=>tm.get 1=some (.pointer (some ⟨H.next,0,none⟩))∧tm.get 3=some (.bool true)∧tm.get 4=some (.pointer (some ⟨H3.next,0,none⟩))∧tm.get 6=some (.int .i64 (termE c.body))∧tm.get 8=some (.int .i64 (termE c.body))∧tm.get 9=some (.bool true)∧tm.get 10=some (.pointer (some ⟨H10.next,0,none⟩))∧tm.get 11=some (.int .i64 (checkC c)) ∧
  tm.get 12=some (.pointer (some ⟨H12.next,0,none⟩))∧tm.get 14=some (.pointer (some ⟨H14.next,0,none⟩))∧tm.get 15=some (.int .i64 (checkC c))∧tm.get 16=some (.bool true)) ⟨(by simp only[sG,Za,reduceCtorEq]),(by simp only[sG,Za,reduceCtorEq]),(by simp only[sG,Za,reduceCtorEq]),(by simp only[sG,Za,reduceCtorEq]),(by simp only[sG,Za,reduceCtorEq]),(by simp only[sG,Za,reduceCtorEq,z5n rfl]),(by simp only[sG,Za,reduceCtorEq]),(by simp only[sG,Za,reduceCtorEq]),(by simp only[sG,Za,reduceCtorEq]),(by simp only[sG,Za,reduceCtorEq]),(by simp only[sG,Za,reduceCtorEq]),(by simp only[sG,Za,reduceCtorEq,z5n rfl])⟩ ?_
 rintro tm ⟨t1,t3,t4,t6,t8,t9,t10,t11,t12,t14,t15,t16⟩;have m10:=k10.next;have m11:=k11.next;have m1116:=(k1115.trans k16).next;(repeat refine EvC.seq ?_);refine EvC.reg ?_;simp only[sA];refine EvC.join (fun st=>∃tm G,st=⟨tm,[],G⟩∧tm.get 1=some (.pointer (some ⟨H.next,0,none⟩))∧tm.get 3=some (.bool true)∧tm.get 4=some (.pointer (some ⟨H3.next,0,none⟩))∧tm.get 6=some (.int .i64 (termE c.body))∧tm.get 8=some (.int .i64 (termE c.body))∧tm.get 9=some (.bool true)∧tm.get 11=some (.int .i64 (checkC c)) ∧
  tm.get 12=some (.pointer (some ⟨H12.next,0,none⟩))∧tm.get 14=some (.pointer (some ⟨H14.next,0,none⟩))∧tm.get 15=some (.int .i64 (checkC c))∧tm.get 16=some (.bool true)∧HK (fun n=>H9.next≤n∧n < H10.next) H16 G) ?_ ?_
 ·by_cases hg:GoodC c;rotate_left
  ·have he0:(wholeV c).args.length=0:=by rw[wholeV,if_neg hg];rfl
   have hd':decide ((0:Int) < ((wholeV c).args.length:Int))=false:=decide_eq_false (by omega);have q14:=row6 g14;refine EvC.block (EvC.loop1 ?_)
   repeat' (first|refine EvC.seq ?_|(refine EvC.exit ?_;try simp only[sB])|(refine EvC.reg ?_;simp only[sB,Za,z0j,ld23,ln23,t10,q14,hd'])|(refine EvC.condF ?_ ?_;simp only[sB,Za];refine z07 ?_))
   exact⟨_,_,rfl,(by simp only[sG,Za,t1]),(by simp only[sG,Za,t3]),(by simp only[sG,Za,t4]),(by simp only[sG,Za,t6]),(by simp only[sG,Za,t8]),(by simp only[sG,Za,t9]),(by simp only[sG,Za,t11]),(by simp only[sG,Za,t12]),(by simp only[sG,Za,t14]),(by simp only[sG,Za,t15]),(by simp only[sG,Za,t16]),HK.refl w16⟩
  ·rcases hB with ⟨hg',-⟩|⟨-,p,a1,c1,a2,c2,hp,hp1,hp2,hgp,-⟩
   ·exact absurd hg hg'
   have he2:(wholeV c).args.length=2:=by rw[wholeV,if_pos hg];rfl
   obtain⟨hba,hbc⟩:ba=some ⟨p,0,none⟩∧bc=2:=by
    have h:=hp;rw[wholeV,if_pos hg] at h;obtain⟨-,-,-,-,-,h1,h2⟩:=z4h h;exact⟨h1,h2⟩
   have gp16:=((k11.trans k1115).trans k16).get w10 hgp;refine EvC.block (EvC.loop (fun k' st=>∃tm H' i cells',st=⟨tm,[],H'⟩∧k'=2 - i∧i≤2∧tm.get 1=some (.pointer (some ⟨H.next,0,none⟩))∧tm.get 3=some (.bool true)∧tm.get 4=some (.pointer (some ⟨H3.next,0,none⟩))∧tm.get 6=some (.int .i64 (termE c.body))∧tm.get 8=some (.int .i64 (termE c.body))∧tm.get 9=some (.bool true)∧tm.get 10=some (.pointer (some ⟨H10.next,0,none⟩))∧tm.get 11=some (.int .i64 (checkC c)) ∧
    tm.get 12=some (.pointer (some ⟨H12.next,0,none⟩))∧tm.get 14=some (.pointer (some ⟨H14.next,0,none⟩))∧tm.get 15=some (.int .i64 (checkC c))∧tm.get 16=some (.bool true)∧tm.get 17=some (.int .i64 (i:Nat)) ∧
    H'.get H10.next=some (.row (six (wholeV c) ba bc) 25)∧H'.get p=some (.row cells' 25)∧2*6≤cells'.length∧HK (fun n=>H9.next≤n∧n < H10.next) H16 H') ?_ 2 _ ?_)
   rotate_left
   ·exact⟨_,_,0,_,rfl,rfl,by omega,(by simp only[sG,Za,t1]),(by simp only[sG,Za,t3]),(by simp only[sG,Za,t4]),(by simp only[sG,Za,t6]),(by simp only[sG,Za,t8]),(by simp only[sG,Za,t9]),(by simp only[sG,Za,t10]),(by simp only[sG,Za,t11]),(by simp only[sG,Za,t12]),(by simp only[sG,Za,t14]),(by simp only[sG,Za,t15]),(by simp only[sG,Za,t16]),(by simp only[sB];rfl),g14,gp16,by simp [six],HK.refl w16⟩
   rintro k' st ⟨tm,H',i,cells',rfl,rfl,hi,t1,t3,t4,t6,t8,t9,t10,t11,t12,t14,t15,t16,t17,gp',gb',hcl',hk'⟩;have q14:=row6 gp';by_cases hlt:i < 2
   ·have hle:i*6+6≤cells'.length:=by omega
    have hlt':i < (wholeV c).args.length:=by omega
    have hd:decide (((i:Nat):Int) < ((wholeV c).args.length:Int))=true:=decide_eq_true (by omega);rw[hba] at q14
    repeat' (first|refine EvC.seq ?_|refine EvC.block ?_|(refine EvC.skip ?_;try simp only[z00])|(refine EvC.reg ?_;simp (disch:=first|omega|rfl) only[sB,Za,Zb,Value.cells,one,layC,st25,z0j,ld23,ln23,bd25,ia23,t10,t17,q14,hd,gb',hle,z0b])|(refine EvC.condT ?_ ?_;simp only[sB,Za];refine z07 ?_))
    have hlp:=hk'.wf _ _ gb';refine⟨2 - (i+1),by omega,_,_,i+1,Hb.splice cells' (i*6) (six zeroT none 0),rfl,rfl,by omega,(by simp only[sG,Za,t1]),(by simp only[sG,Za,t3]),(by simp only[sG,Za,t4]),(by simp only[sG,Za,t6]),(by simp only[sG,Za,t8]),(by simp only[sG,Za,t9]),(by simp only[sG,Za,t10]),(by simp only[sG,Za,t11]),(by simp only[sG,Za,t12]),(by simp only[sG,Za,t14]),(by simp only[sG,Za,t15]),(by simp only[sG,Za,t16]),(by simp only[sB,Za];rfl),by rw[get_put,if_neg (by omega)];exact gp',by rw[get_put,if_pos rfl];rfl,by rw[z1x (vs:=six zeroT none 0) hle];exact hcl',hk'.put (.inl ⟨hp1,hp2⟩) hlp _⟩
   ·have hd:decide (((i:Nat):Int) < ((wholeV c).args.length:Int))=false:=decide_eq_false (by omega)
    repeat' (first|refine EvC.seq ?_|(refine EvC.exit ?_;try simp only[sB])|(refine EvC.reg ?_;simp only[sB,Za,z0j,ld23,ln23,t10,t17,q14,hd])|(refine EvC.condF ?_ ?_;simp only[sB,Za];refine z07 ?_))
    exact⟨_,_,rfl,(by simp only[sG,Za,t1]),(by simp only[sG,Za,t3]),(by simp only[sG,Za,t4]),(by simp only[sG,Za,t6]),(by simp only[sG,Za,t8]),(by simp only[sG,Za,t9]),(by simp only[sG,Za,t11]),(by simp only[sG,Za,t12]),(by simp only[sG,Za,t14]),(by simp only[sG,Za,t15]),(by simp only[sG,Za,t16]),hk'⟩
 rintro st ⟨tm,G,rfl,t1,t3,t4,t6,t8,t9,t11,t12,t14,t15,t16,hk⟩;simp only[z00];have wG:=hk.wf;have mG:=hk.next;have m1:=hx1.next;have m3:=(k2.trans k3).next;have m4:=k4.next;have m9:=(k46.trans (k68.trans k9)).next;have m12:=(k12.trans k13).next;have m14:=(k14.trans k15).next;have m12':=k12.next;have m14':=k14.next;have m16:=k16.next;have hx16:=(hx13.trans (k14.trans k15)).trans k16;have hxG:HX H G:=hx16.then hk fun n hn h=>by have:=h.1;omega
 have k316:=(k4.trans (k46.trans (k68.trans k9))).trans (k911.trans (k1115.trans k16));have k3G:HX H3 G:=k316.then hk fun n hn h=>by have:=h.1;omega
 have g1:=hk.get w16 g1 (fun h=>by have:=h.1;omega);have g6:=hk.get w16 g6 (fun h=>by have:=h.1;omega);have g16:=hk.get w16 g16 (fun h=>by have:=h.2;omega);have g17:=hk.get w16 g17 (fun h=>by have:=h.2;omega);have k1216:=(k13.trans (k14.trans k15)).trans k16;have k1416:=k15.trans k16;have rC:RepS G (fun _=>True) (wholeV c) (six (wholeV c) ca cc):=hC2.to fun n hn hl=>⟨by
  have a1:H11.next≤n:=hn.1;have:=k1216.next;rw[hk.keep n (by omega) (fun h=>by have:=h.2;omega)];exact k1216.keep n hl,trivial,by have:=k1216.next;omega⟩
 have rD:RepS G (fun _=>True) (wholeV c) (six (wholeV c) da dc):=hD.to fun n hn hl=>⟨by
  have:=k1416.next;rw[hk.keep n (by omega) (fun h=>by have a2:=h.2;have a1:=h.1;rcases hn with hn|hn<;>omega)];exact k1416.keep n hl,trivial,by have:=k1416.next;omega⟩
 have q16:=row6 g16;have q17:=row6 g17;(repeat refine EvC.seq ?_);refine EvC.reg ?_;simp only[sB,Za,ld25,cl12,t12,t14,q16,q17];refine(z3z rC.rep rD.rep wG).mono ?_;rintro v H17 ⟨rfl,k17⟩;have q1:=z0u (k17.get wG g1);have q6:=z0u (k17.get wG g6);have w17:=k17.wf;try simp only[]
 (repeat refine EvC.seq ?_);refine EvC.reg ?_;simp only[sB,Za,ld32,cl9,t4,t1,q6,q1];refine(z57 (rl.mono (k3G.trans k17) w3) (r0.mono (hxG.trans k17) hw) w17).mono ?_;rintro v H18 ⟨rfl,k18⟩;have k1718:=k17.trans k18;have w18:=k18.wf;have g1:=k1718.get wG g1;have q1:=z0u g1;try simp only[]
 refine EvC.frame (fun tm=>tm.get 1=some (.pointer (some ⟨H.next,0,none⟩))∧tm.get 3=some (.bool true)∧tm.get 6=some (.int .i64 (termE c.body))∧tm.get 8=some (.int .i64 (termE c.body))∧tm.get 9=some (.bool true)∧tm.get 11=some (.int .i64 (checkC c)) ∧
  tm.get 15=some (.int .i64 (checkC c))∧tm.get 16=some (.bool true)∧tm.get 18=some (.bool true)∧tm.get 19=some (.bool true)) ⟨(by simp only[sG,Za,t1]),(by simp only[sG,Za,t3]),(by simp only[sG,Za,t6]),(by simp only[sG,Za,t8]),(by simp only[sG,Za,t9]),(by simp only[sG,Za,t11]),(by simp only[sG,Za,t15]),(by simp only[sG,Za,t16]),(by simp only[sG,Za,z5n rfl]),(by simp only[sG,Za,zon rfl])⟩ ?_
 rintro tm2 ⟨u1,u3,u6,u8,u9,u11,u15,u16,u18,u19⟩
 repeat' (first|refine EvC.seq ?_|(refine EvC.drw [([(0,0),(1,0),(2,0),(3,0),(4,0),(5,0),(6,0),(7,0),(8,0),(9,0),(10,0),(11,0),(12,0),(13,0),(14,0),(15,0),(16,0),(17,0),(18,0),(19,0),(20,0),(21,0),(22,0),(23,0),(24,0)],some 25),([(26,0)],some 27),([(28,2),(29,2),(30,2)],none)] ?_ ?_;kernel_rfl;simp only[sD,sB,Za,Zb,reduceCtorEq,ld32,cl20,u1,u3,u6,u8,u9,u11,u15,u16,u18,u19,z0k rfl,q1,isAlloc,isRead]))
 have hb:HX H18 ⟨H18.next+31,H18.t⟩:=(HX.refl w18).bump 31;refine(zbj hf (r0.mono ((hxG.trans k1718).trans hb) hw) hb.wf).mono ?_;rintro v H19 ⟨rfl,k19⟩;have kb:=hb.trans k19;have q1b:=z0u (kb.get w18 g1)
 repeat' (first|(refine z0h ?_;simp only[sV,sD,sB,Za,reduceCtorEq,ld32,cl21,u1,q1,q1b,isAlloc,isRead]))
 refine(zbk hf (r0.mono ((hxG.trans k1718).trans kb) hw) k19.wf).mono ?_;rintro v H20 ⟨rfl,k20⟩
 repeat' (first|(refine EvC.ret ?_)|(refine z0h ?_;simp only[sD,sB,Za,Zb,z0k rfl,isAlloc,isRead]))
 exact z03 rfl (by simp only[sG,Za]) rfl
end Go.Proofs.hq
end

section
namespace Go.Hb
open Go Go.RowKit
section
variable {H:Type}{enc:TypeId × Value→H}{P:Program}{W:World}{sp:Nat→Bool}{fuel:Nat}{t e:TypeId}{cs:List Value}{d:DataW H}{ps:List MemPlace}
theorem zmw {k:IntKind}{n:Int}:ab P W (.int k n)=.int k n:=rfl
theorem zmx {s:ByteArray}:ab P W (.string s)=.string s:=rfl
theorem z7d {k:IntKind}(ht:P.underlying t=some (.int k)) (h:DataW.trod enc P W 0 sp true fuel t cs=some (d,ps)):∃n,cs=[.int k n]∧(Lit.int k n).wf=true:=by
 cases fuel with
 |zero=>simp [DataW.trod] at h
 |succ m =>
  unfold DataW.trod at h;rw[ht] at h;split at h<;>simp_all
theorem za5 (ht:P.underlying t=some .string) (h:DataW.trod enc P W 0 sp true fuel t cs=some (d,ps)):∃s:ByteArray,cs=[.string s]∧s.size≤maxLen:=by
 cases fuel with
 |zero=>simp [DataW.trod] at h
 |succ m =>
  unfold DataW.trod at h;rw[ht] at h;split at h<;>simp_all
theorem trod_slice (ht:P.underlying t=some (.slice e)) (h:DataW.trod enc P W 0 sp true fuel t cs=some (d,ps)) :
  cs=[.slice none 0 0]∨∃a len cap m,fuel=m+1∧cs=[.slice (some a) len cap]∧len≤cap∧cap≤maxLen ∧
   ∀i,i < len→∃es d' ps',W.cells? 0 (a.add (i*P.cellsOf e)) (P.cellsOf e)=some es∧DataW.trod enc P W 0 sp true m e es=some (d',ps'):=by
 cases fuel with
 |zero=>simp [DataW.trod] at h
 |succ m =>
  unfold DataW.trod at h;rw[ht] at h;split at h<;>simp_all
  obtain⟨⟨hl,hc⟩,h⟩:=h;simp only[Option.bind_eq_some_iff,Option.map_eq_some_iff] at h;obtain⟨elems,he,_⟩:=h;refine⟨_,_,_,⟨rfl,rfl,rfl⟩,hl,hc,fun i hi=>?_⟩;have hlen:=mapM_some_length he;have:=mapM_some_get he i i (by simp [hi]);rw[Zc (by rw[hlen];simpa using hi)] at this;simp only[Option.bind_eq_some_iff] at this;obtain⟨es,h1,h2⟩:=this;exact⟨es,h1,_,_,h2⟩
theorem zs1 (a:Addr) (i:Nat):(a.add i).block=a.block:=by unfold Addr.add;split<;>rfl
theorem z7e {a:Addr}{s i:Nat}{es:List Value}(hs:0 < s) (h:W.cells? 0 (a.add (i*s)) s=some es) (hsp:a.spot=none):(heapW P W).load ⟨a.block,a.off+i*s,none⟩ s=some (es.map (ab P W))∧es.length=s∧a.block < W.heap.size:=by
 obtain⟨_,hl,hc⟩:=World.cells?_some h;obtain⟨b,o,sp⟩:=a;obtain rfl:sp=none:=hsp;have hb:=World.cells?_block h hs;rw[zs1] at hb;refine⟨ziz hs hl fun j v hj=>?_,hl,hb⟩;have hjl:j < es.length:=(List.getElem?_eq_some_iff.1 hj).1;have:=hc j (by omega);rw[add0,add0] at this;rw[this];exact hj
theorem zbm {a:Addr}{s:Nat}{es:List Value}(hs:0 < s) (h:W.cells? 0 (a.add (0*s)) s=some es):a.spot=none:=by
 obtain⟨_,hl,hc⟩:=World.cells?_some h;have e0:∀a:Addr,a.add 0=a:=fun a=>by unfold Addr.add;simp
 have:=hc 0 hs;rw[Zu,e0,e0,Zc (by omega)] at this;unfold World.cell? at this;split at this
 ·split at this
  ·cases this
  ·rename_i hn;simpa using hn
 ·cases this
end
section
variable {H:Type}{enc:TypeId × Value→H}{P:Program}{W:World}{sp:Nat→Bool}
structure TermTypes (P:Program) (tT tS tI tG tU:TypeId):Prop where
 fields:∃fs:Array Field,P.underlying tT=some (.struct fs)∧(fs.toList.map fun f=>(f.offset,f.type))=[(0,tI),(1,tG),(2,tG),(3,tU),(4,tI),(5,tS)]
 slice:P.underlying tS=some (.slice tT)
 int:P.underlying tI=some (.int .i64)
 str:P.underlying tG=some .string
 u64:P.underlying tU=some (.int .u64)
 cT:P.cellsOf tT=6
 cS:P.cellsOf tS=1
 cI:P.cellsOf tI=1
 cG:P.cellsOf tG=1
 cU:P.cellsOf tU=1
theorem zbn {n:Int}(h:(Lit.int .i64 n).wf=true):i64 n:=by
 unfold i64;unfold Lit.wf at h;simp [IntKind.min,IntKind.max,IntKind.bits,IntKind.signed] at h;exact h
theorem zqb {n:Int}(h:(Lit.int .u64 n).wf=true):u64 n:=by
 unfold u64;unfold Lit.wf at h;simp [IntKind.min,IntKind.max,IntKind.bits,IntKind.signed] at h;exact h
theorem z4o {cs:List Value}{o:Nat}{v:Value}(h:(cs.drop o).take 1=[v]):cs[o]?=some v:=by
 have:((cs.drop o).take 1)[0]?=some v:=by rw[h];rfl
 simpa [ZF,List.getElem?_drop] using this
theorem zig {cs:List Value}{a b c d e f:Value}(hl:cs.length=6) (h0:cs[0]?=some a) (h1:cs[1]?=some b) (h2:cs[2]?=some c) (h3:cs[3]?=some d) (h4:cs[4]?=some e) (h5:cs[5]?=some f):cs=[a,b,c,d,e,f]:=by
 match cs,hl with
 |[_,_,_,_,_,_],_=>simp at h0 h1 h2 h3 h4 h5;simp [h0,h1,h2,h3,h4,h5]
end
end Go.Hb
end

section
namespace Go.Hb
open Go Go.RowKit
section
variable {H:Type}{enc:TypeId × Value→H}{P:Program}{W:World}{sp:Nat→Bool}
end
end Go.Hb
end

section
namespace Go.Proofs.hq
open Go Go.RowKit Go.Hb
section
variable {H:Type}{enc:TypeId × Value→H}{P:Program}{W:World}{sp:Nat→Bool}
structure Wt (w:DataW H→Nat):Prop where
 pos:∀d,1≤w d
 agg:∀ps,(ps.map w).sum+1≤w (.agg ps)
 slice:∀es rest,(es.map w).sum+1≤w (.slice es rest)
theorem z4l {fuel:Nat}{t:TypeId}{cs:List Value}{d:DataW H}{ps:List MemPlace}{fs:Array Field}(ht:P.underlying t=some (.struct fs)) (h:DataW.trod enc P W 0 sp true fuel t cs=some (d,ps)) :
  ∃(m:Nat) (xs:List (DataW H × List MemPlace)),fuel=m+1∧cs.length=P.cellsOf t∧d=.agg (xs.map (·.1))∧∀(i:Nat) (f:Field),fs[i]?=some f→∃x,xs[i]?=some x∧DataW.trod enc P W 0 sp true m f.type ((cs.drop f.offset).take (P.cellsOf f.type))=some x:=by
 cases fuel with
 |zero=>simp [DataW.trod] at h
 |succ m =>
  unfold DataW.trod at h;rw[ht] at h;have h':(if cs.length=P.cellsOf t then (fs.toList.mapM fun f=>DataW.trod enc P W 0 sp true m f.type ((cs.drop f.offset).take (P.cellsOf f.type))).map fun xs=>(DataW.agg (xs.map (·.1)),xs.flatMap (·.2)) else none)=some (d,ps):=by
   split at h<;>first|exact h|simp_all
  split at h'
  ·rename_i hl;rw[Option.map_eq_some_iff] at h';obtain⟨xs,hx,he⟩:=h';cases he;refine⟨m,xs,rfl,hl,rfl,fun i f hf=>?_⟩;have hlen:=mapM_some_length hx;have:=mapM_some_get hx i f (by simpa using hf);have hi:=(Array.getElem?_eq_some_iff.1 hf).1;have hix:i < xs.length:=by rw[hlen];simpa using hi
   rw[Zc hix] at this;exact⟨xs[i],Zc hix,this⟩
  ·cases h'
theorem z89 {fuel:Nat}{t e:TypeId}{cs:List Value}{d:DataW H}{ps:List MemPlace}(ht:P.underlying t=some (.slice e)) (h:DataW.trod enc P W 0 sp true fuel t cs=some (d,ps)) :
  cs=[.slice none 0 0]∨∃(a:Addr) (cap m:Nat) (elems:List (DataW H × List MemPlace)) (rest:List (DataW H)),fuel=m+1∧cs=[.slice (some a) elems.length cap]∧elems.length≤cap∧cap≤maxLen∧d=.slice (elems.map (·.1)) rest ∧
   ∀i x,elems[i]?=some x→∃es,W.cells? 0 (a.add (i*P.cellsOf e)) (P.cellsOf e)=some es∧DataW.trod enc P W 0 sp true m e es=some x:=by
 rcases DataW.trod_slice ht h with ⟨h1,-⟩|⟨a,len,cap,elems,rest,n,rfl,rfl,hx,-,hl,hm,rfl,hel,-⟩
 ·exact .inl h1
 ·cases hx;refine .inr ⟨a,cap,n,elems,_,rfl,rfl,hl,hm,rfl,fun i x hx=>?_⟩;have hi:=(List.getElem?_eq_some_iff.1 hx).1;have:=hel i hi;rw[hx,Option.bind_eq_some_iff] at this;exact this
theorem zga:nd.ndL []=0:=by rw[nd.ndL]
theorem zcw {t:Tm}{l:List Tm}:nd.ndL (t :: l)=nd t+nd.ndL l:=by rw[nd.ndL]
theorem zqc (t:Tm):1≤nd t:=by rw[z1p];omega
theorem zmy:∀l:List Tm,l.length≤nd.ndL l
 |[]=>Zs _
 |t :: l=>by have:=zmy l;have:=zqc t;rw[zcw,ZE];omega
theorem zqd {w:DataW H→Nat}:∀(es:List (DataW H × List MemPlace)) (f:Nat→Tm),(∀i x,es[i]?=some x→7*nd (f i)≤w x.1)→7*nd.ndL ((Zj es.length).map f)≤((es.map (·.1)).map w).sum
 |[],f,_=>by simp [zga]
 |x :: es,f,h=>by
  have h0:=h 0 x rfl;have ih:=zqd (w:=w) es (fun i=>f (i+1)) fun i y hy=>h (i+1) y hy
  rw[ZE,List.range_succ_eq_map,ZC,ZI,zcw,ZC,ZC,List.sum_cons];have e:(f ∘ Nat.succ)=fun i=>f (i+1):=rfl
  rw[e];omega
theorem zov {b:Nat}{B:Blk}(h:(heapW P W).get b=some B):∃cs e,B=.ro cs e:=by
 rw[z6j] at h;split at h
 ·unfold blkW at h;split at h
  ·cases h;exact⟨_,_,rfl⟩
  ·cases h
 ·cases h
theorem zs2 {b o n:Nat}{cs:List Value}(h:(heapW P W).load ⟨b,o,none⟩ n=some cs):∃cs e,(heapW P W).get b=some (.ro cs e):=by
 cases hg:(heapW P W).get b with
 |none=>unfold Heap.load Heap.cells at h;simp [hg] at h
 |some B=>obtain⟨cs,e,rfl⟩:=zov hg;exact⟨cs,e,rfl⟩
theorem zs3 {tT tS tI tG tU:TypeId}(T:TermTypes P tT tS tI tG tU) {w:DataW H→Nat}{a:Addr}{m cap:Nat}{elems:List (DataW H × List MemPlace)}
  (hnc:elems.length≤cap) (hcm:cap≤maxLen)
  (ih:∀(cs:List Value) (d:DataW H) (ps:List MemPlace),DataW.trod enc P W 0 sp true m tT cs=some (d,ps)→∃t,RepT (heapW P W) t (cs.map (ab P W))∧7*nd t≤w d)
  (hel:∀i x,elems[i]?=some x→∃es,W.cells? 0 (a.add (i*P.cellsOf tT)) (P.cellsOf tT)=some es∧DataW.trod enc P W 0 sp true m tT es=some x) :
  ∃l a' cells,ab P W (.slice (some a) elems.length cap)=.slice (some a') l.length cap∧RepL (heapW P W) l (some a') cap cells∧7*nd.ndL l≤((elems.map (·.1)).map w).sum∧(0 < l.length→a'.spot=none∧∃cs e,(heapW P W).get a'.block=some (.ro cs e)):=by
 rw[T.cT] at hel;have hsp:0 < elems.length→a.spot=none:=fun hn=>by
  obtain⟨es,he,_⟩:=hel 0 elems[0] (Zc hn);exact zbm (by omega) he
 have key:∀i,∃t cells,(∀x,elems[i]?=some x→(heapW P W).load ⟨a.block,a.off+i*6,none⟩ 6=some cells∧RepT (heapW P W) t cells∧7*nd t≤w x.1):=fun i=>by
  by_cases hi:i < elems.length
  ·obtain⟨es,he,ht⟩:=hel i elems[i] (Zc hi);obtain⟨t,hr,hwt⟩:=ih es elems[i].1 elems[i].2 ht;exact⟨t,_,fun x hx=>by rw[Zc hi] at hx;cases hx;exact⟨(z7e (by omega) he (hsp (by omega))).1,hr,hwt⟩⟩
  ·exact⟨.mk 0 Ze Ze 0 0 [],[],fun x hx=>absurd (List.getElem?_eq_some_iff.1 hx).1 hi⟩
 obtain⟨T',hT'⟩:=Classical.axiomOfChoice key;obtain⟨C,hC⟩:=Classical.axiomOfChoice hT';have hlen:((Zj elems.length).map T').length=elems.length:=by simp
 have hsum:=zqd (w:=w) elems T' fun i x hx=>(hC i x hx).2.2
 by_cases hn:0 < elems.length
 ·have hbl:a.block < W.heap.size:=by
   obtain⟨es,he,_⟩:=hel 0 elems[0] (Zc hn);exact(z7e (P:=P) (by omega) he (hsp hn)).2.2
  have hab:ab P W (.slice (some a) elems.length cap)=.slice (some a) ((Zj elems.length).map T').length cap:=by
   unfold ab;rw[hlen];simp only;rw[if_pos ⟨hnc,hcm⟩,if_pos ⟨hsp hn,hbl⟩]
  refine⟨(Zj elems.length).map T',a,C,hab,⟨by rw[hlen];exact hnc,hcm,fun h=>(by cases h),fun i ad hi ha=>?_,fun i t ht=>?_⟩,hsum,fun _=>⟨hsp hn,zs2 (hC 0 _ (Zc hn)).1⟩⟩
  ·cases ha;rw[hlen] at hi;exact⟨hsp hn,(hC i _ (Zc hi)).1⟩
  ·rw[ZG,Option.map_eq_some_iff] at ht;obtain⟨j,hj,rfl⟩:=ht;have hi:i < elems.length:=by have:=(List.getElem?_eq_some_iff.1 hj).1;simpa using this
   rw[List.getElem?_range hi] at hj;cases hj;exact(hC i _ (Zc hi)).2.1
 ·have hn0:elems.length=0:=by omega
  obtain⟨a',hab⟩:∃a',ab P W (.slice (some a) elems.length cap)=.slice (some a') 0 cap:=by
   unfold ab;simp only;rw[if_pos ⟨hnc,hcm⟩,hn0];split
   ·exact⟨_,rfl⟩
   ·exact⟨_,rfl⟩
  exact⟨[],a',fun _=>[],hab,⟨Zs _,hcm,fun h=>(by cases h),fun i ad hi=>by simp at hi,fun i t h=>by simp at h⟩,by simp [zga],fun h=>by simp at h⟩
theorem zti {tT tS tI tG tU:TypeId}(T:TermTypes P tT tS tI tG tU) {w:DataW H→Nat}(hw:Wt w):∀(fuel:Nat) (cs:List Value) (d:DataW H) (ps:List MemPlace),DataW.trod enc P W 0 sp true fuel tT cs=some (d,ps)→∃t,RepT (heapW P W) t (cs.map (ab P W))∧7*nd t≤w d:=by
 intro fuel
 induction fuel using Nat.strongRecOn with
 |_ fuel ih =>
 intro cs d ps h;obtain⟨fs,hf,hfs⟩:=T.fields;obtain⟨m,xs,rfl,hl,rfl,hall⟩:=z4l hf h;rw[T.cT] at hl;have fld:∀i o u,((fs.toList.map fun f=>(f.offset,f.type)))[i]?=some (o,u)→P.cellsOf u=1→∃x,xs[i]?=some x∧DataW.trod enc P W 0 sp true m u ((cs.drop o).take 1)=some x:=fun i o u hi hu=>by
  rw[ZG,Option.map_eq_some_iff] at hi;obtain⟨f,hf1,hf2⟩:=hi;obtain⟨x,hx,hd⟩:=hall i f (by simpa using hf1);cases hf2;rw[hu] at hd;exact⟨x,hx,hd⟩
 rw[hfs] at fld;obtain⟨d0,p0,t0⟩:=fld 0 0 tI rfl T.cI;obtain⟨d1,p1,t1⟩:=fld 1 1 tG rfl T.cG;obtain⟨d2,p2,t2⟩:=fld 2 2 tG rfl T.cG;obtain⟨d3,p3,t3⟩:=fld 3 3 tU rfl T.cU;obtain⟨d4,p4,t4⟩:=fld 4 4 tI rfl T.cI;obtain⟨d5,p5,t5⟩:=fld 5 5 tS rfl T.cS;have hbulk:6+w d5.1≤w (.agg (xs.map (·.1))):=by
  have h1:=hw.agg (xs.map (·.1))
  match xs,p0,p1,p2,p3,p4,p5,h1 with
  |x0 :: x1 :: x2 :: x3 :: x4 :: x5 :: r,p0,p1,p2,p3,p4,p5,h1 =>
   cases p5;simp only[ZC,List.sum_cons] at h1 ⊢;have:=hw.pos x0.1;have:=hw.pos x1.1;have:=hw.pos x2.1;have:=hw.pos x3.1;have:=hw.pos x4.1;omega
 obtain⟨k,h0,w0⟩:=z7d T.int t0;obtain⟨s,h1,w1⟩:=za5 T.str t1;obtain⟨u,h2,w2⟩:=za5 T.str t2;obtain⟨b,h3,w3⟩:=z7d T.u64 t3;obtain⟨v,h4,w4⟩:=z7d T.int t4;have hp5:=hw.pos d5.1;obtain⟨d5,q5⟩:=d5;rcases z89 T.slice t5 with h5|⟨a,c,m',elems,rest,rfl,h5,hnc,hcm,rfl,hel⟩
 ·rw[zig hl (z4o h0) (z4o h1) (z4o h2) (z4o h3) (z4o h4) (z4o h5)];refine⟨.mk k s u b v [],.mk k s u b v [] none 0 (fun _=>[]) (zbn w0) w1 w2 (zqb w3) (zbn w4) (Zs _) (Zg _) (Zs _) (fun _=>⟨rfl,rfl⟩) (fun i ad hi=>by simp at hi) (fun i t ht=>by simp at ht),?_⟩;rw[z1p,show (Tm.mk k s u b v []).args=[] from rfl,zga];try simp only at hbulk
  try simp only at hp5
  omega
 ·rw[zig hl (z4o h0) (z4o h1) (z4o h2) (z4o h3) (z4o h4) (z4o h5)];obtain⟨l,a',C,hab,rl,hn,-⟩:=zs3 T hnc hcm (ih m' (by omega)) hel;simp only[ZC,List.map_nil,zmw,zmx,hab];refine⟨.mk k s u b v l,.mk k s u b v l (some a') c C (zbn w0) w1 w2 (zqb w3) (zbn w4) (Zo rl.len hcm) rl.len hcm (fun h=>(by cases h)) rl.load rl.rep,?_⟩;rw[z1p,show (Tm.mk k s u b v l).args=l from rfl];have:=hw.slice (elems.map (·.1)) rest;try simp only at hbulk
  try simp only at hp5
  omega
end
end Go.Proofs.hq
end

section
namespace Go.Proofs.hq
open Go Go.RowKit Go.Hb
theorem zqe:∀{l:List Tm}{u:Tm},u∈l→nd u≤nd.ndL l
 |t :: l,u,h=>by
  rw[zcw];rcases List.mem_cons.1 h with rfl|h
  ·omega
  ·have:=zqe h;omega
theorem zmz {n:Nat}:∀(m:Nat) (t:Tm),SizeOf.sizeOf t < m→nd t≤n→Few n t
 |0,t,h,_=>absurd h (Nat.not_lt_zero _)
 |m+1,t,h,hn=>by
  have h1:=z1p t;have h2:=zmy t.args;refine .mk (by omega) fun u hu=>zmz m u ?_ ?_
  ·obtain⟨i,hi,rfl⟩:=List.getElem_of_mem hu;have:=z15 (Zc hi);omega
  ·have:=zqe hu;omega
end Go.Proofs.hq
end

section
namespace Go.Proofs.hq
open Go Go.RowKit Go.Hb
variable {ok:Ok}
set_option maxRecDepth 10000
attribute [local irreducible] LX LG EL STG SOP SGO SGD SAL SRD SEF SEG SLK SCK ES
structure OpV where
 kind:Int
 num:Int
 tm:Tm
 cell:Int × Int
structure RepO15 (H:Heap) (B:List OpV) (a:Option Addr) (c:Nat):Prop where
 len:B.length≤c
 cap:c≤maxLen
 el:∀(i:Nat) (h:i < B.length),∃b o a' c',a=some ⟨b,o,none⟩∧H.load ⟨b,o+i*15+1,none⟩ 1=some [.int .i64 B[i].kind]∧H.load ⟨b,o+i*15+2,none⟩ 1=some [.int .i64 B[i].num] ∧
  H.load ⟨b,o+i*15+3,none⟩ 6=some (six B[i].tm a' c')∧H.load ⟨b,o+i*15+9,none⟩ 2=some [.int .i64 B[i].cell.1,.int .i64 B[i].cell.2]∧RepT H B[i].tm (six B[i].tm a' c')
theorem RepO15.mono {H H':Heap}{B:List OpV}{a:Option Addr}{c:Nat}(h:RepO15 H B a c) (hx:HX H H') (hw:H.wf):RepO15 H' B a c :=
 ⟨h.len,h.cap,fun i hi=>by obtain⟨b,o,a',c',e,l1,l2,l3,l4,r⟩:=h.el i hi;exact⟨b,o,a',c',e,hx.load hw l1,hx.load hw l2,hx.load hw l3,hx.load hw l4,r.mono hx hw⟩⟩
end Go.Proofs.hq
end

section
namespace Go.Proofs.hq
open Go Go.RowKit Go.Hb
section
variable {H:Type}{enc:TypeId × Value→H}{P:Program}{W:World}{sp:Nat→Bool}
structure OpTypesW (P:Program) (tO tOS tT tI tC:TypeId):Prop where
 fields:∃fs:Array Field,P.underlying tO=some (.struct fs)∧∃x y z:TypeId,(fs.toList.map fun f=>(f.offset,f.type))=[(0,tI),(1,tI),(2,tI),(3,tT),(9,tC),(11,x),(12,y),(14,z)]
 slice:P.underlying tOS=some (.slice tO)
 cO:P.cellsOf tO=15
 cellf:∃fs:Array Field,P.underlying tC=some (.struct fs)∧(fs.toList.map fun f=>(f.offset,f.type))=[(0,tI),(1,tI)]
 cC:P.cellsOf tC=2
theorem zqf {m:Nat}{cs:List Value}{xs:List (DataW H × List MemPlace)}{fs:Array Field}{L:List (Nat × TypeId)}(hfs:(fs.toList.map fun f=>(f.offset,f.type))=L)
  (hall:∀(i:Nat) (f:Field),fs[i]?=some f→∃x,xs[i]?=some x∧DataW.trod enc P W 0 sp true m f.type ((cs.drop f.offset).take (P.cellsOf f.type))=some x) (i o:Nat) (u:TypeId) (hi:L[i]?=some (o,u)) :
  ∃x,xs[i]?=some x∧DataW.trod enc P W 0 sp true m u ((cs.drop o).take (P.cellsOf u))=some x:=by
 rw[←hfs,ZG,Option.map_eq_some_iff] at hi;obtain⟨f,hf1,hf2⟩:=hi;obtain⟨x,hx,hd⟩:=hall i f (by simpa using hf1);cases hf2;exact⟨x,hx,hd⟩
end
end Go.Proofs.hq
end

section
namespace Go.Proofs.hq
open Go Go.RowKit Go.Hb
section
variable {H:Type}{enc:TypeId × Value→H}{P:Program}{W:World}{sp:Nat→Bool}
structure BodyTypesW (P:Program) (tB tBS tK tT tI:TypeId):Prop where
 fields:∃fs:Array Field,P.underlying tB=some (.struct fs)∧(fs.toList.map fun f=>(f.offset,f.type))=[(0,tI),(1,tT),(7,tBS)]
 slice:P.underlying tBS=some (.slice tB)
 cB:P.cellsOf tB=8
 cBS:P.cellsOf tBS=1
 clausef:∃fs:Array Field,P.underlying tK=some (.struct fs)∧(fs.toList.map fun f=>(f.offset,f.type))=[(0,tT),(6,tB),(14,tI)]
 cK:P.cellsOf tK=15
theorem za6 {t:Bdy}{l:List Bdy}:szB.szBL (t :: l)=szB t+szB.szBL l:=by rw[szB.szBL]
theorem zs4 (u:Bdy):1≤szB u:=by rw[zf3];omega
theorem zih:∀l:List Bdy,l.length≤szB.szBL l
 |[]=>Zs _
 |t :: l=>by have:=zih l;have:=zs4 t;rw[za6,ZE];omega
theorem zii:∀{l:List Bdy}{u:Bdy},u∈l→szB u≤szB.szBL l
 |t :: l,u,h=>by
  rw[za6];rcases List.mem_cons.1 h with rfl|h
  ·omega
  ·have:=zii h;omega
theorem zn0 {n:Nat}:∀(m:Nat) (b:Bdy),SizeOf.sizeOf b < m→szB b≤n→FewB n b
 |0,b,h,_=>absurd h (Nat.not_lt_zero _)
 |m+1,b,h,hn=>by
  rw[zf3] at hn;have h2:=zih b.sub;refine .mk (by omega) (zmz _ _ (Zf _) (by omega)) fun u hu=>zn0 m u ?_ ?_
  ·have:=b.size u hu;omega
  ·have:=zii hu;omega
theorem zn1 {w:DataW H→Nat}:∀(es:List (DataW H × List MemPlace)) (f:Nat→Bdy),(∀i x,es[i]?=some x→2*szB (f i)≤w x.1)→2*szB.szBL ((Zj es.length).map f)≤((es.map (·.1)).map w).sum
 |[],f,_=>by simp [szB.szBL]
 |x :: es,f,h=>by
  have h0:=h 0 x rfl;have ih:=zn1 (w:=w) es (fun i=>f (i+1)) fun i y hy=>h (i+1) y hy
  rw[ZE,List.range_succ_eq_map,ZC,ZI,za6,ZC,ZC,List.sum_cons];have e:(f ∘ Nat.succ)=fun i=>f (i+1):=rfl
  rw[e];omega
theorem zow {tB tBS tK tT tI:TypeId}(Bt:BodyTypesW P tB tBS tK tT tI) {w:DataW H→Nat}{a:Addr}{m cap:Nat}{elems:List (DataW H × List MemPlace)}
  (hnc:elems.length≤cap) (hcm:cap≤maxLen)
  (ih:∀(cs:List Value) (d:DataW H) (ps:List MemPlace),DataW.trod enc P W 0 sp true m tB cs=some (d,ps)→∃b,RepB (heapW P W) b (cs.map (ab P W))∧2*szB b≤w d)
  (hel:∀i x,elems[i]?=some x→∃es,W.cells? 0 (a.add (i*P.cellsOf tB)) (P.cellsOf tB)=some es∧DataW.trod enc P W 0 sp true m tB es=some x) :
  ∃l a' cells,ab P W (.slice (some a) elems.length cap)=.slice (some a') l.length cap∧RepBL (heapW P W) l (some a') cap cells∧2*szB.szBL l≤((elems.map (·.1)).map w).sum:=by
 rw[Bt.cB] at hel;have hsp:0 < elems.length→a.spot=none:=fun hn=>by
  obtain⟨es,he,_⟩:=hel 0 elems[0] (Zc hn);exact zbm (by omega) he
 have key:∀i,∃t cells,(∀x,elems[i]?=some x→(heapW P W).load ⟨a.block,a.off+i*8,none⟩ 8=some cells∧RepB (heapW P W) t cells∧2*szB t≤w x.1):=fun i=>by
  by_cases hi:i < elems.length
  ·obtain⟨es,he,ht⟩:=hel i elems[i] (Zc hi);obtain⟨t,hr,hwt⟩:=ih es elems[i].1 elems[i].2 ht;exact⟨t,_,fun x hx=>by rw[Zc hi] at hx;cases hx;exact⟨(z7e (by omega) he (hsp (by omega))).1,hr,hwt⟩⟩
  ·exact⟨zeroB,[],fun x hx=>absurd (List.getElem?_eq_some_iff.1 hx).1 hi⟩
 obtain⟨T',hT'⟩:=Classical.axiomOfChoice key;obtain⟨C,hC⟩:=Classical.axiomOfChoice hT';have hlen:((Zj elems.length).map T').length=elems.length:=by simp
 have hsum:=zn1 (w:=w) elems T' fun i x hx=>(hC i x hx).2.2
 by_cases hn:0 < elems.length
 ·have hbl:a.block < W.heap.size:=by
   obtain⟨es,he,_⟩:=hel 0 elems[0] (Zc hn);exact(z7e (P:=P) (by omega) he (hsp hn)).2.2
  have hab:ab P W (.slice (some a) elems.length cap)=.slice (some a) ((Zj elems.length).map T').length cap:=by
   unfold ab;rw[hlen];simp only;rw[if_pos ⟨hnc,hcm⟩,if_pos ⟨hsp hn,hbl⟩]
  refine⟨(Zj elems.length).map T',a,C,hab,⟨by rw[hlen];exact hnc,hcm,fun h=>(by cases h),fun i ad hi ha=>?_,fun i t ht=>?_⟩,hsum⟩
  ·cases ha;rw[hlen] at hi;exact⟨hsp hn,(hC i _ (Zc hi)).1⟩
  ·rw[ZG,Option.map_eq_some_iff] at ht;obtain⟨j,hj,rfl⟩:=ht;have hi:i < elems.length:=by have:=(List.getElem?_eq_some_iff.1 hj).1;simpa using this
   rw[List.getElem?_range hi] at hj;cases hj;exact(hC i _ (Zc hi)).2.1
 ·have hn0:elems.length=0:=by omega
  obtain⟨a',hab⟩:∃a',ab P W (.slice (some a) elems.length cap)=.slice (some a') 0 cap:=by
   unfold ab;simp only;rw[if_pos ⟨hnc,hcm⟩,hn0];split
   ·exact⟨_,rfl⟩
   ·exact⟨_,rfl⟩
  exact⟨[],a',fun _=>[],hab,⟨Zs _,hcm,fun h=>(by cases h),fun i ad hi=>by simp at hi,fun i t h=>by simp at h⟩,by simp [szB.szBL]⟩
theorem zbo {cs ts:List Value}{x y:Value}(hl:cs.length=8) (h0:(cs.drop 0).take 1=[x]) (h1:(cs.drop 1).take 6=ts) (h7:(cs.drop 7).take 1=[y]):cs=x :: (ts++[y]):=by
 match cs,hl with
 |[a,b,c,d,e,f,g,h],_ =>
  simp only[List.drop_zero,List.drop_succ_cons,List.take_succ_cons,List.take_zero] at h0 h1 h7;cases h0;cases h7;subst h1;rfl
theorem zn2 {cs hs bs:List Value}{y:Value}(hl:cs.length=15) (h0:(cs.drop 0).take 6=hs) (h1:(cs.drop 6).take 8=bs) (h7:(cs.drop 14).take 1=[y]):cs=hs++(bs++[y]):=by
 match cs,hl with
 |[a0,a1,a2,a3,a4,a5,a6,a7,a8,a9,aa,ab,ac,ad,ae],_ =>
  simp only[List.drop_zero,List.drop_succ_cons,List.take_succ_cons,List.take_zero] at h0 h1 h7;cases h7;subst h0;subst h1;rfl
theorem w3 {w:DataW H→Nat}(hw:Wt w) {xs:List (DataW H × List MemPlace)}{d0 d1 d2:DataW H}{p0 p1 p2:List MemPlace}(x0:xs[0]?=some (d0,p0)) (x1:xs[1]?=some (d1,p1)) (x2:xs[2]?=some (d2,p2)):1+w d0+w d1+w d2≤w (.agg (xs.map (·.1))):=by
 have h1:=hw.agg (xs.map (·.1))
 match xs,x0,x1,x2,h1 with
 |y0 :: y1 :: y2 :: r,x0,x1,x2,h1 =>
  cases x0;cases x1;cases x2;simp only[ZC,List.sum_cons] at h1 ⊢;omega
theorem ztj {tS tG tU tB tBS tK tT tI:TypeId}(T:TermTypes P tT tS tI tG tU) (Bt:BodyTypesW P tB tBS tK tT tI) {w:DataW H→Nat}(hw:Wt w):∀(fuel:Nat) (cs:List Value) (d:DataW H) (ps:List MemPlace),DataW.trod enc P W 0 sp true fuel tB cs=some (d,ps)→∃b,RepB (heapW P W) b (cs.map (ab P W))∧2*szB b≤w d:=by
 intro fuel
 induction fuel using Nat.strongRecOn with
 |_ fuel ih =>
 intro cs d ps h;obtain⟨fs,hf,hfs⟩:=Bt.fields;obtain⟨m,xs,rfl,hl,rfl,hall⟩:=z4l hf h;rw[Bt.cB] at hl;have fld:=zqf hfs hall;obtain⟨⟨d0,p0⟩,x0,t0⟩:=fld 0 0 tI rfl;obtain⟨⟨d1,p1⟩,x1,t1⟩:=fld 1 1 tT rfl;obtain⟨⟨d2,p2⟩,x2,t2⟩:=fld 2 7 tBS rfl;rw[T.cI] at t0;rw[T.cT] at t1;rw[Bt.cBS] at t2;obtain⟨k,h0,w0⟩:=z7d T.int t0;obtain⟨t,hr,hn⟩:=zti T hw _ _ _ _ t1;obtain⟨ta,tc,tcells,h6,-⟩:=hr.six;have hb:=w3 hw x0 x1 x2;have hp0:=hw.pos d0;have hnp:=zqc t;rcases z89 Bt.slice t2 with h5|⟨a,c,m',elems,rest,rfl,h5,hnc,hcm,rfl,hel⟩
 ·have hc:=zbo hl h0 rfl h5;rw[hc];refine⟨.mk k t [],?_,?_⟩
  ·rw[ZC,ZD,zmw];exact .mk k t [] _ none 0 (fun _=>[]) (zbn w0) hr (Zg _) (Zs _) (fun _=>⟨rfl,rfl⟩) (fun i ad hi=>by simp at hi) (fun i u hu=>by simp at hu)
  ·rw[zf3,show (Bdy.mk k t []).sub=[] from rfl,show (Bdy.mk k t []).term=t from rfl];simp only[szB.szBL];have:=hw.pos d2;omega
 ·have hc:=zbo hl h0 rfl h5;rw[hc];obtain⟨l,a',C,hab,rl,hn2⟩:=zow Bt hnc hcm (ih m' (by omega)) hel;refine⟨.mk k t l,?_,?_⟩
  ·rw[ZC,ZD,zmw,ZC,List.map_nil,hab];exact .mk k t l _ (some a') c C (zbn w0) hr rl.len hcm (fun h=>(by cases h)) rl.load rl.rep
  ·rw[zf3,show (Bdy.mk k t l).sub=l from rfl,show (Bdy.mk k t l).term=t from rfl];have:=hw.slice (elems.map (·.1)) rest;omega
theorem ztk {tS tG tU tB tBS tK tT tI:TypeId}(T:TermTypes P tT tS tI tG tU) (Bt:BodyTypesW P tB tBS tK tT tI) {w:DataW H→Nat}(hw:Wt w) (fuel:Nat) (cs:List Value) (d:DataW H) (ps:List MemPlace) (h:DataW.trod enc P W 0 sp true fuel tK cs=some (d,ps)):∃c,RdC (heapW P W) c (cs.map (ab P W))∧7*nd c.head≤w d∧2*szB c.body≤w d:=by
 obtain⟨fs,hf,hfs⟩:=Bt.clausef;obtain⟨m,xs,rfl,hl,rfl,hall⟩:=z4l hf h;rw[Bt.cK] at hl;have fld:=zqf hfs hall;obtain⟨⟨d0,p0⟩,x0,t0⟩:=fld 0 0 tT rfl;obtain⟨⟨d1,p1⟩,x1,t1⟩:=fld 1 6 tB rfl;obtain⟨⟨d2,p2⟩,x2,t2⟩:=fld 2 14 tI rfl;rw[T.cT] at t0;rw[Bt.cB] at t1;rw[T.cI] at t2;obtain⟨v,h2,w2⟩:=z7d T.int t2;obtain⟨t,hr,hn⟩:=zti T hw _ _ _ _ t0;obtain⟨b,hrb,hnb⟩:=ztj T Bt hw _ _ _ _ t1;obtain⟨ta,tc,tcells,h6,-⟩:=hr.six;obtain⟨ua,uc,xa,xc,h8⟩:=hrb.eight;have hb:=w3 hw x0 x1 x2;have hc:=zn2 hl rfl rfl h2;refine⟨⟨t,b,v⟩,?_,by simp only;omega,by simp only;omega⟩;rw[hc,ZD,ZD,h6,h8];rw[h6] at hr;rw[h8] at hrb;exact⟨ta,tc,ua,uc,xa,xc,rfl,hr,hrb⟩
end
end Go.Proofs.hq
end
